import Derived.Test.YtlefmmhlpgmbjaaGreatR05
open Option renaming none->ea,some->ed,map_some->eV
open Go.RowKit.Below renaming heap_setCell->eb,refl->e5
open Go.Value renaming ownBlock->ec,slice->eo
open List renaming length_take->ee,length_drop->ef,length_map->eg,mem_append_right->eh,nodup_append->ei,mem_of_mem_take->ej,mem_of_mem_drop->ek,take_append_drop->en,mem_append_left->ep,mem_map->et,takeWhile_cons->eu,length_nil->ey,cons_append->eB,dropWhile_suffix->eC,mem_iff_getElem->eE,dropWhile_cons->eF,getElem?_eq_getElem->eH,nil_append->eI,length_set->eJ,pairwise_cons->eK,length->eL,take_of_length_le->eM,getElem_mem->eN,mem_cons_of_mem->eP,map_append->eQ,take_succ_cons->eR,drop_succ_cons->eS,sublist_flatten_of_mem->eT,append_assoc->eU,takeWhile_prefix->eX,take_zero->eY,flatten_append->eZ,filter_eq_self->e0,map_take->e2,map_drop->e3,map_cons->e4,getElem_take->e6,flatten_cons->e7,takeWhile_append_dropWhile->e8,append_nil->e9,drop_zero->fa,drop_eq_getElem_cons->fb,map_map->fe,getElem_set_self->fh,getElem?_eq_none->fi,filter_append->fk,isEmpty_cons->fm,getElem_tail->fo,getElem_drop->fq
open Bool renaming false_eq_true->ev,true->ew,false->ez
open Nat renaming le_refl->eA,lt_irrefl->fc,zero_add->fg,zero_le->fj
open Go.Proofs.Tryz renaming prog->eD
open Go renaming wpQuiet_nil->eG,World->eO,Calls->e1,Value->ff,bodyPost_ret->fl
open Go.Act renaming put->eW
open Go.Proofs.Tryz
set_option maxRecDepth 100000
set_option maxHeartbeats 4000000
open Go.Value renaming int->gE,slice->hA,string->hE,bool->hF,pointer->hG
open Go.IntKind renaming i64->ha
open Go.Ending renaming returned->ht
open Go.Obj renaming cells->hI
namespace Go.Proofs.YtlefmmhlpgmbjaaGreat
open Go.RowKit Go.Shelf
variable {L:List Nat}{W A w:eO}{b k g n c gM:Nat}{α:Type}{x:Kv}{key:ByteArray}{e:TypeId}{v:ff}{xs:List ff}
theorem gS.xa (h:gS L W A) {d:Array ff} {t:TypeId} (j:Bx W b d t) (f:b∉L):Bx A b d t:=h.bx j f
theorem kM.sP {n:Nd} (h:kM n) (d:n.gC≠[]):n.ps=[]:=by
 cases h with
 | lf=>exact absurd rfl d
 | mD=>rfl
theorem Km {a b:List α} {x:α} (h:k=a.length+1):(a++x::b).take k=a++[x]:=by
 subst h;rw[List.take_append,eM oM,show a.length+1 - a.length=1 by omega];rfl
theorem ED {a b:List α} {x:α} (h:k=a.length+1):(a++x::b).drop k=b:=by
 subst h;rw[List.drop_append,List.drop_of_length_le oM,show a.length+1 - a.length=1 by omega];rfl
theorem oG {y:Nat} (h:(eo (ed ⟨g,0,ea⟩) n c).ownBlock=ed y):y=g:=by
 have:g=y:=by simpa[ec] using h
 exact this.symm
theorem Kn (gM:Nat) (x:Kv): ∀(t:AT) (w:eO),h9 gM w t->t.fp.Nodup->kM t.nd->jZ t.nd.iv->gM<=w.heap.size->e1 eD 120 #[t.ptr,tW x] w (ud gM x t w):=by
 intro t
 induction t using AT.ind with
 | h b q aT r gC I cP=>
 intro w h b7 aR a5 bS
 by_cases aP:gC=[]
 refine Kl gM x _ w h b7 aP ?_ ?_ bS;have:=aR.sM;rw[AT.jb] at this;exact this;have:=a5;rw[Nd.iJ (by rw[AT.gT,show(AT.mk b q aT r gC I).gC=gC from rfl,aP];rfl),AT.jb] at this;exact this;obtain⟨E,S⟩:=x;have bb:=h.hx;have b9:=h.hp;have a8:=h.hk;have bT:=h.hc;have bR:=h.hb;simp only[AT.b,AT.pv,AT.kv,AT.ps,AT.gC,AT.page] at bb b9 a8 bT bR;have cv:gC.isEmpty=false:=by cases gC<;>simp_all
 rw[cv] at bb;simp only[AT.ptr,AT.b];obtain⟨dI,bN⟩:=nM (ud gM (E,S) (.mk b q aT r gC I) w);rw[bN];have bZ:gC.map AT.nd≠[]:=by simpa using aP
 have bK:=p7 E bZ;obtain⟨C,bm⟩:=nM (ly (gC.map AT.nd) E);have p:=aR.oa;rw[AT.gT] at p;have cz:gC.length<=8:=by rw[eg] at p;exact p
 have cx: ∀c∈gC,c.nd.first=true:=fun c dj=>(aR.kid _ (by rw[AT.gT];exact et.2 ⟨c,dj,rfl⟩)).first;have a4:C<gC.length:=by rw[bm,eg] at bK;exact bK
 have ah:=Bq gC a4;obtain⟨O,bs⟩:=nM (gC[C]);obtain⟨H,bu⟩:=nM (gC.take C);obtain⟨P,b3⟩:=nM (gC.drop (C+1));rw[bs,bu,b3] at ah;have b2:H.length=C:=by rw[<-bu,ee];omega
 have a9:O∈gC:=by rw[ah];simp
 have aO:jB (E,S) (AT.mk b q aT r gC I).nd.er=jA (kt (H.map (fun s=>s.nd.er)++(jB (E,S) O.nd.er).1::(jB (E,S) O.nd.er).2.toList++P.map fun s=>s.nd.er)):=by
  have bH:(AT.mk b q aT r gC I).nd.er.gC=gC.map (fun s=>s.nd.er):=by rw[Nd.jN,AT.gT,fe];rfl
  have c6:ly (gC.map fun s=>s.nd.er) E=C:=by rw[<-bH,Nd.jN,zh,AT.gT];exact bm
  have R:(AT.mk b q aT r gC I).nd.er.gC≠[]:=by rw[bH];simpa using aP
  rw[xJ R];simp only[bH,c6,List.getElem_map,bs, <-e2, <-e3,bu,b3]
 have bE:=gF bN;have bg:=gF aO;have cg:=gF (cP O a9);have ci:=gF (gK (aR.kid _ (by rw[AT.gT];exact et.2 ⟨_,a9,rfl⟩)) (a5.kid (k:=O.nd) (by rw[AT.gT];exact et.2 ⟨_,a9,rfl⟩)));have bi:=gF h.lt;have bG:Hid (r=[]):=gF (by have:=aR.sP (by rw[AT.gT];exact bZ);rw[AT.jb] at this;exact this);have bj:=gF b7;have ct: ∀W,Below w.heap.size w W->e1 eD 100 #[hG (ed ⟨b,0,ea⟩), hE E] W fun e cV=>e= ht (gE ha C)/\cV=W:=fun W dg=>by have:=Bg gM (.mk b q aT r gC I) E W (h.ij dg) aP cx (by show gC.length<=1000;omega);refine this.mono ?_;rintro e cV ⟨rfl,rfl⟩;exact⟨by rw[<-bm];rfl,rfl⟩
 have ck:=gF (ct _ (Below.one _ (hI #[hE E, hE S] 77)));obtain⟨g,c,rfl,bk,b4,cy⟩:=qH a8 a4;rw[bs] at bk;unfold AT.ptr at bk;have bX:=(a8.lt g cy).2;have aZ:=gF (gK bb (gK b9 (gK a8 bT)));have D:=gF (gK ah (gK b2 (gK cz (gK a4 a9))));obtain⟨n,b6⟩:=nM gC.length;have a1:=gF b6;obtain⟨N,dd⟩:=nM w.heap.size;obtain⟨V,aC⟩:=bb.c2;unfold gX at V;rw[b6] at V a4 b4;have dD:b<N:=oM
 have c9:g<N:=oM
 have aF:=gF (gK bR bS);clear bN aO cP aR a5 h b7 ct bZ bK bm p cz cx ah bs bu b3 b2 a9 bb b9 a8 bT cv aP cy b6 bR bS;go_enter func120,ntmps120;go_wp2_with fail;refine ck.o.mono ?_;rintro e W ⟨rfl,rfl⟩;have a3:Below w.heap.size w (w.alloc (hI #[hE E, hE S] 77)):=Below.one _ _;have ce:=Bx.new w #[hE E, hE S] 77;rw[dd] at ce;have bB:=aZ.o.1.gD a3;rw[a1.o] at bB;have c5:(w.alloc (hI #[hE E, hE S] 77)).cell? ⟨g,C,ea⟩=ed (hG (ed ⟨O.b,0,ea⟩)):=by rw[a3.cell bX];exact bk
 have cO:=a3.size;have c8:g<(w.alloc (hI #[hE E, hE S] 77)).heap.size:=iU bX cO;have cX:=gF a3;clear V aC bk bX a3 ck cO;generalize w.alloc (hI #[hE E, hE S] 77)=W1 at *;obtain⟨V,aC⟩:=bB.c2;unfold gX at V;obtain⟨c3,dC⟩:=ce.c2;go_wp2;have c4:=jv.cells W1;refine pS 8 2 #[ew,ew,ew,ew,ew,ew,ew,ew,ez,ez] (fun i=>if i=1 then ed (iw (hG (ed ⟨b,0,ea⟩))) else ea) oP oO oO oP ?_;simp only[eR,eY];refine LW.b 1 1 ?_;simp only[jC];repeat (go_big_quiet_step (fail))
 refine eG ?_;refine LW.z ?_ ?_;intro d1 _;exact pC oO;intro _;simp only[eW,gU]
 (try simp only[iw])
 refine LW.b 6 8 ?_;simp only[jC];repeat (go_big_quiet_step (fail))
 refine eG ?_;refine LW.done ?_;intro ab cp;have bP:=cp.below;have ax:=iq cX.o bP;have cW:=bB.gD bP;have cT:=aZ.o.2.1.ia ax;have cQ:=aZ.o.2.2.1.ia ax;have ca:w.heap.size<=ab.heap.size:=ax.size;have b8:=bj.o;rw[AT.fp] at b8;obtain⟨⟨cR,cS,cd⟩,⟨aD,aU,au⟩,aH,al,am⟩:=pN.1 b8;have cL: ∀y∈O.fp,y∈AT.iO gC:=fun y d=>AT.iK.2 ⟨O,D.o.2.2.2.2,d⟩;have b': ∀y∈AT.iO gC,y∈(AT.mk b q (hA (ed ⟨g,0,ea⟩) gC.length c) r gC I).fp:=fun y d=>by rw[AT.fp];exact eP _ (eh _ (eh _ d))
 have aa:=cd;rw[D.o.1,sO,sD] at aa;have b0:=ei.1 aa;have b1:=ei.1 b0.2.1;have bQ:gM<=ab.heap.size:=jU aF.o.2 ca;have cs:=cg.o ab ((aZ.o.2.2.2 O D.o.2.2.2.2).ij ax) b1.1 ci.o.1 ci.o.2 bQ;have cj:=gF cs;have ap: ∀s∈H++P,h9 gM ab s/\ ∀y∈s.fp,y∉O.fp:=fun s M=>by
  have dy:s∈gC:=by rw[D.o.1];rcases jD.1 M with h|h<;>simp[h]
  refine⟨(aZ.o.2.2.2 s dy).ij ax,fun y d bx=>?_⟩;rcases jD.1 M with h|h;exact b0.2.2 y (AT.iK.2 ⟨s,h,d⟩) y (ep _ bx) rfl;exact b1.2.2 y bx y (AT.iK.2 ⟨s,h,d⟩) rfl
 have ch:Hid (gS (AT.mk b q (hA (ed ⟨g,0,ea⟩) gC.length c) r gC I).fp w ab):=gF ((gS.refl _ w).ic ax);have cF: ∀y∈AT.iO (H++O::P),y<ab.heap.size:=fun y d=>by have:=(bi.o y (b' y (by rw[D.o.1];exact d))).2;omega
 have Z:=gF (gK cW (gK cT (gK cQ (gK ap cF))));have aG:=gF (gK cL b');have a0:=gF (gK (gK cR (gK cS cd)) (gK (gK aD (gK aU au)) (gK aH (gK al am))));have cn:=gF (gK ca bQ);have dH:=gF (gK a4 b4);clear cp c4 bP ax cW cT cQ b8 cR cS cd aD aU au aH al am cL b' aa b0 b1 cs ap cF ca bQ V aC c3 dC c5 c8 ce bB dD c9 b4;refine iG 8 fun K hK=>?_;go_simp;refine cj.o.mono ?_;rintro e ak ⟨c',o,rfl,G,bp,aL,M⟩;refine hK _ _ ?_;clear hK K;simp only[gU];have bv: ∀y,(y=b\/y∈q.ownBlock.toList\/y=g)->y∉O.fp:=fun y d bx=>by have cb:=aG.o.1 y bx;obtain⟨-,⟨-,-,au⟩,-,al,am⟩:=a0.o;rcases d with h|h|h;exact au (by rw[<-h];exact cb);exact al y h cb;exact am y (by rw[h];simp[ec]) cb
 have bd:=G.keep.xa Z.o.1 (bv b (.inl rfl));have bA:=Z.o.2.1.iE G.keep (fun y d=>bv y (.inr (.inl (by rw[d];simp))));have bz:=Z.o.2.2.1.iE G.keep fun y d=>bv y (.inr (.inr (oG d)));have ap: ∀s∈H++P,h9 gM ak s:=fun s M=>(Z.o.2.2.2.1 s M).1.iE G.keep (Z.o.2.2.2.1 s M).2;have bC:Hid (gS (AT.mk b q (hA (ed ⟨g,0,ea⟩) gC.length c) r gC I).fp w ak):=gF (ch.o.trans (G.keep.sub fun y d=>aG.o.2 y (aG.o.1 y d)));have cc:=G.keep.2.2.2.1;obtain⟨V,aC⟩:=bd.c2;unfold gX at V;have av:=gF (gK bd (gK bA (gK bz (gK ap cc))));have J:=gF (gK G (gK bp (gK aL M)));have dR:n<=8:=by have:=D.o.2.2.1;rw[a1.o] at this;exact this
 have dS:n<=maxLen:=by unfold maxLen;omega
 clear G bp aL M bd bA bz ap cc bv cg cj ch;cases o with
 | none=>
  simp only[jP];refine iG 9 fun K hK=>?_;go_simp;refine hK _ _ ?_;clear hK K;refine kS ?_;go_wp2;rw[<-bE.o];obtain⟨G,bp,aL,-⟩:=J.o;obtain⟨bd,bA,bz,ap,cc⟩:=av.o;obtain⟨ah,b2,bt,-,-⟩:=D.o;have aJ:AT.iO [c']=c'.fp:=by rw[sD];exact e9 _
  have ai:=Bp (X:=[c']) (z:=ab.heap.size) (by rw[<-ah];exact a0.o.1.2.2) Z.o.2.2.2.2 (by rw[aJ];exact G.nodup) (by rw[aJ];exact G.fp);have b5:(H++([c']++P)).length=gC.length:=by rw[ah];simp
  have du:(H++([c']++P)).map AT.ptr=gC.map AT.ptr:=by rw[ah];simp[AT.ptr,G.b]
  have R:H++([c']++P)≠[]:=oC
  refine⟨_,ea,rfl,xO (ke:=H++([c']++P)) (qz:= hA (ed ⟨g,0,ea⟩) gC.length c) bj.o (fun y d=>(bi.o y d).2) aF.o.1 R (by rw[a1.o];exact bd) bA (by rw[b5,du];exact bz) ?_ (.inl rfl) ai.1 ?_ bC.o,?_,?_,fun s M=>by cases M⟩;intro s M;rcases jD.1 M with h|h;exact ap s (ep _ h);rcases jD.1 h with h|h;have:s=c':=by simpa using h
  rw[this];exact G.lies;exact ap s (eh _ h);intro y d;rcases ai.2 y d with h|h;exact .inl (by rw[ah];exact h);exact .inr (by have:=cn.o.1;omega);rw[bg.o,wZ oC (by simp[<-aL];rw[<-b5] at bt;simpa using bt),Nd.jJ,AT.jb,AT.gT];simp[<-bp, <-aL,kt,AT.gC,AT.ps,bG.o];rfl;rw[bg.o,wZ oC (by simp[<-aL];rw[<-b5] at bt;simpa using bt)];rfl
 | some s=>
  simp only[jP,AT.ptr];refine iG 9 fun K hK=>?_;go_simp;refine hK _ _ ?_;clear hK K;refine kS ?_;have ae:Below ak.heap.size ak (ak.alloc (hI #[hG (ed ⟨s.b,0,ea⟩)] 88)):=Below.one _ _;have bJ:=Bx.new ak #[hG (ed ⟨s.b,0,ea⟩)] 88;obtain⟨ac,bn⟩:=nM (ak.alloc (hI #[hG (ed ⟨s.b,0,ea⟩)] 88));rw[bn] at ae bJ;obtain⟨M3,bM⟩:=nM ak.heap.size;have aW:=av.o.1.gD ae;have aV:=av.o.2.1.ia ae;have bc:=av.o.2.2.1.ia ae;have aQ: ∀u∈H++P,h9 gM ac u:=fun u j=>(av.o.2.2.2.1 u j).ij ae;have cu:h9 gM ac c'/\h9 gM ac s:=⟨J.o.1.lies.ij ae,((J.o.2.2.2 s rfl).1).ij ae⟩;have bD:Hid (gS (AT.mk b q (hA (ed ⟨g,0,ea⟩) gC.length c) r gC I).fp w ac):=gF (bC.o.ic ae);have R:(eo (ed ⟨g,0,ea⟩) gC.length c).ownBlock≠ed M3:=fun e=>by have:=(av.o.2.2.1.lt _ e).2;rw[bM] at this;exact absurd this (fc _)
  have aS:w.heap.size<=ac.heap.size:=bD.o.2.2.2.1;have bY:=Ka gM _ gC.length (gC.map AT.ptr) ac bc (C+1) (by have:=D.o.2.2.2.1;omega) M3 [hG (ed ⟨s.b,0,ea⟩)] rfl (by rw[<-bM];exact bJ) R (by intro u j;obtain⟨k,-,rfl⟩:=et.1 j;rfl) (by intro u j;simp at j;rw[j];rfl) (by have:=D.o.2.2.1;omega) (jU aF.o.2 aS);rw[show((C+1:Nat):Int)=(C:Int)+1 from rfl,a1.o] at bY;have bF:=gF bY;have cf:=gF (gK aW (gK aV (gK bc (gK aQ (gK cu aS)))));subst bM;rw[<-bn] at bF;clear ae aW aV bc bY aQ cu R aS bC bJ;have cY:=gF bn;clear bn;go_wp2_with fail;refine bF.o.mono ?_;rintro e T ⟨dZ,rfl,br,aM,bw⟩;obtain⟨f,F,rfl,dO,dn,dP,dQ⟩:=br.pos (Nat.succ_pos _);rw[cY.o] at aM bw;obtain⟨aW,aV,bc,aQ,⟨cr,cI⟩,aS⟩:=cf.o;obtain⟨-,⟨aD,aU,au⟩,aH,al,am⟩:=a0.o;have dm:(eo (ed ⟨g,0,ea⟩) gC.length c).ownBlock=ed g:=rfl;have bW:g≠b:=fun e=>aU (by rw[e];simp[ec]);have bq:g∉AT.iO gC:=am g (by simp[ec]);have dl:g<ab.heap.size:=(Z.o.2.2.1.lt g rfl).2;have az: ∀u∈H++([c',s]++P),h9 gM ac u/\g∉u.fp:=fun u j=>by
   have aa: ∀u∈H++P,g∉u.fp:=fun u j d=>bq (AT.iK.2 ⟨u,by rw[D.o.1];rcases jD.1 j with h|h<;>simp[h],d⟩)
   rcases jD.1 j with h|h;exact⟨aQ u (ep _ h),aa u (ep _ h)⟩;rcases jD.1 h with h|h;have:u=c'\/u=s:=by simpa using h
   rcases this with rfl|rfl;refine⟨cr,fun d=>?_⟩;rcases J.o.1.fp g d with h|h;exact bq (aG.o.1 g h);omega;refine⟨cI,fun d=>?_⟩;rcases (J.o.2.2.2 _ rfl).2.2.1 g d with h|h;exact bq (aG.o.1 g h);omega;exact⟨aQ u (eh _ h),aa u (eh _ h)⟩
  have aJ:AT.iO [c',s]=c'.fp++s.fp:=by rw[sD,sD];simp[AT.iO]
  have ai:=Bp (X:=[c',s]) (z:=ab.heap.size) (by rw[<-D.o.1];exact a0.o.1.2.2) Z.o.2.2.2.2
   (by rw[aJ];exact ei.2 ⟨J.o.1.nodup,(J.o.2.2.2 s rfl).2.1,fun a a5 c0 dh e=>(J.o.2.2.2 s rfl).2.2.2 c0 dh (e▸a5)⟩)
   (by
     rw[aJ];intro y d;rcases jD.1 d with h|h
     . exact J.o.1.fp y h
     . exact(J.o.2.2.2 s rfl).2.2.1 y h)
  obtain⟨ks,a'⟩:=nM (H++([c',s]++P));have p:ks.length=n+1:=by rw[<-a', <-a1.o,D.o.1];simp;omega
  have cB:(gC.map AT.ptr).take (C+1)++[hG (ed ⟨s.b,0,ea⟩)]++(gC.map AT.ptr).drop (C+1)=ks.map AT.ptr:=by
   have cE:C+1=(H.map AT.ptr).length+1:=by rw[eg,D.o.2.1]
   rw[<-a',D.o.1,eQ,e4,Km cE,ED cE];simp[AT.ptr,J.o.1.b]
  rw[cB] at br;rw[a'] at az ai;have aj:f≠b/\((eo (ed ⟨f,0,ea⟩) (n+1) F).ownBlock=(eo (ed ⟨g,0,ea⟩) gC.length c).ownBlock\/ ∃a2,w.heap.size<=a2/\(eo (ed ⟨f,0,ea⟩) (n+1) F).ownBlock=ed a2/\a2∉AT.iO ks):=by rcases bw with h|h;have ay:f=g:=(oG (y:=g) h).symm;exact⟨by rw[ay];exact bW, .inl h⟩;have ay:f=ac.heap.size:=(oG h).symm;refine⟨by rw[ay];have:=aW.lt;omega, .inr ⟨_,aS,h,fun aB=>?_⟩⟩;obtain⟨u,j,d⟩:=AT.iK.1 aB;exact absurd ((az u j).1.lt _ d).2 (fc _)
  have aN:f∉AT.iO ks:=fun aB=>by obtain⟨u,j,d⟩:=AT.iK.1 aB;rcases bw with h|h;have ay:f=g:=(oG (y:=g) h).symm;rw[ay] at d;exact(az u j).2 d;have ay:f=ac.heap.size:=(oG h).symm;rw[ay] at d;exact absurd ((az u j).1.lt _ d).2 (fc _)
  have ao:b∉AT.iO ks:=fun aB=>by rcases ai.2 b aB with h|h;exact au (by rw[D.o.1];exact h);have:=Z.o.1.lt;omega
  have be:=aW.grown aM fun e=>bW ((oG e.symm).symm▸rfl);have cU:=aV.same fun y d=>aM.block y (aV.lt y d).2 (fun e=>aH y (by rw[d];simp) (by rw[oG e.symm];simp[ec]));have cC: ∀u∈ks,h9 gM T u:=fun u j=>(az u j).1.grown aM (fun y d=>by rw[oG d];exact(az u j).2);have cq:=bD.o.pG aM (fun dX dw=> .inl (by rw[oG dw,AT.fp];simp[ec]));have aX:Bx (T.setCell ⟨b,2,ea⟩ (hA (ed ⟨f,0,ea⟩) (n+1) F)) b (gX ez q (hA (ed ⟨f,0,ea⟩) (n+1) F) I) 129:=be.set 2 _;have aE:gW (T.setCell ⟨b,2,ea⟩ (hA (ed ⟨f,0,ea⟩) (n+1) F)) gM 77 2 q r.length (gV r):=cU.same fun y d=>eb _ ⟨b,2,ea⟩ _ _ (fun e=>aD ((show y=b from e)▸(show y∈q.ownBlock.toList by rw[d];simp)));have ar:gW (T.setCell ⟨b,2,ea⟩ (hA (ed ⟨f,0,ea⟩) (n+1) F)) gM 88 1 (hA (ed ⟨f,0,ea⟩) (n+1) F) ks.length (ks.map AT.ptr):=by rw[p];exact br.same fun y d=>by rw[oG d];exact eb _ ⟨b,2,ea⟩ _ _ aj.1
  have aA: ∀u∈ks,h9 gM (T.setCell ⟨b,2,ea⟩ (hA (ed ⟨f,0,ea⟩) (n+1) F)) u:=fun u j=>(cC u j).same fun y d=>eb _ ⟨b,2,ea⟩ _ _ fun e=>ao (AT.iK.2 ⟨u,j,(show y=b from e)▸d⟩);have an:gS (AT.mk b q (hA (ed ⟨g,0,ea⟩) gC.length c) r gC I).fp w (T.setCell ⟨b,2,ea⟩ (hA (ed ⟨f,0,ea⟩) (n+1) F)):=cq.set (by rw[AT.fp];simp);have ag:ks≠[]:=fun e=>by rw[e] at p;simp at p
  have aq: ∀y∈AT.iO ks,y∈AT.iO gC\/w.heap.size<=y:=fun y d=>by rcases ai.2 y d with h|h;exact .inl (by rw[D.o.1];exact h);exact .inr (by have:=cn.o.1;omega)
  have ad:=xO (ke:=ks) bj.o (fun y d=>(bi.o y d).2) aF.o.1 ag aX aE ar aA aj.2 ai.1 aq an;have cK:ks.map (fun u=>u.nd.er)=H.map (fun s=>s.nd.er)++(jB (E,S) O.nd.er).1::(jB (E,S) O.nd.er).2.toList++P.map (fun s=>s.nd.er):=by rw[<-a', <-J.o.2.1, <-J.o.2.2.1];simp
  have aO:=bg.o;rw[<-cK] at aO;have bh:=gF aO;have bf:=gF (gK aX (gK aE (gK ar (gK aA (gK an (gK ad (gK p (gK aj (gK ai.1 (gK aq (gK ag (gK aN ao))))))))))));have c1:T.cell? ⟨b,2,ea⟩=ed (hA (ed ⟨g,0,ea⟩) n c):=by rw[be.cell];rfl
  have c7:T.frozen? ⟨b,2,ea⟩=false:=be.free 2;have dB:=be.lt;clear br aM bw aW aV bc aQ cr cI aS aD aU au aH al am dm bW bq dl az aJ ai a' p cB aj aN ao be cU cC cq aX aE ar aA an ag aq ad cK aO bF cf av Z J a0 D aG bg bD dn
  by_cases cJ:n+1<=8
  .
   go_wp2;rw[<-bE.o];obtain⟨-,-,-,-,-,ad,p,-,-,-,ag,-,-⟩:=bf.o;have R:ks.map (fun u=>u.nd.er)≠[]:=by simpa using ag
   refine⟨_,ea,rfl,ad,?_,?_,fun s M=>by cases M⟩;rw[bh.o,wZ R (by rw[eg,p];exact cJ),Nd.jJ,AT.jb,AT.gT];simp[kt,AT.gC,AT.ps,bG.o];rw[bh.o,wZ R (by rw[eg,p];exact cJ)];rfl
  obtain rfl:n=8:=oM
  obtain⟨aX,aE,ar,aA,an,ad,p,aj,aa,aq,ag,aN,ao⟩:=bf.o;have bo:(ks.drop 5).length=4:=by rw[ef,p]
  have cH:gO (fun y=>(eo (ed ⟨f,0,ea⟩) (8+1) F).ownBlock=ed y) (T.setCell ⟨b,2,ea⟩ (hA (ed ⟨f,0,ea⟩) (8+1) F)) (ed ⟨f,5,ea⟩) ((ks.drop 5).map AT.ptr):=by
   obtain⟨o,dJ,bI,-,Y⟩:=ar.at;have da:ed ⟨f,0,ea⟩=o:=by have:=bI;simp at this;exact this.1
   subst da;have bl:=Y.cut 5 4;rw[<-e3,eM (by rw[eg,bo];exact eA _)] at bl;exact bl
  have cl:=gF (Bj _ ⟨f,5,ea⟩ 4 (F - 5) ((ks.drop 5).map AT.ptr) (by rw[eg,bo]) cH (by intro u j;obtain⟨k,-,rfl⟩:=et.1 j;rfl) oF);have cm:=gF bo;have dM:F≠5:=oM
  clear cH bo aX aE ar aA an ad p aj aa aq ag aN ao;go_wp2_with fail;refine cl.o.mono ?_;rintro e U ⟨d0,rfl,ba,af⟩;clear cl V aC c1 c7 dB;obtain⟨g7,aw,rfl,bU,bV,-,-⟩:=(gW.own ba).pos oF;have aY:=bf.o.1.gD af;obtain⟨V,aC⟩:=aY.c2;unfold gX at V;have dK:(U.alloc (hI #[hF ez, hA ea 0 0, hA (ed ⟨g7,0,ea⟩) 4 aw, gE ha 0] 129)).frozen? ⟨b,2,ea⟩=false:=(aY.alloc _).free 2;have cZ:=gF (gK aY (gK ba (gK af (gK bU bV))));clear aY ba af bU bV;go_wp2;rw[<-World.setCell_alloc_past _ _ _ _ aC, <-bE.o];obtain⟨aX,aE,ar,aA,an,ad,p,aj,aa,aq,ag,aN,ao⟩:=bf.o;obtain⟨aY,ba,af,bU,bV⟩:=cZ.o;have dp:=ad.lies.lt;have dz:w.heap.size<=(T.setCell ⟨b,2,ea⟩ (hA (ed ⟨f,0,ea⟩) (8+1) F)).heap.size:=an.2.2.2.1;have di:gM<=w.heap.size:=aF.o.2;generalize T.setCell ⟨b,2,ea⟩ (hA (ed ⟨f,0,ea⟩) (8+1) F)=W6 at *;have dW:=af.size;have dt:=gW.own (qL ba (jU di dz));have dT:ks=ks.take 5++ks.drop 5:=(en 5 ks).symm;have a6:AT.iO ks=AT.iO (ks.take 5)++AT.iO (ks.drop 5):=by rw[<-sO,en]
  obtain⟨W8,bO⟩:=nM (U.alloc (hI #[hF ez, hA ea 0 0, hA (ed ⟨g7,0,ea⟩) 4 aw, gE ha 0] 129));have aI:Below U.heap.size U W8:=by rw[<-bO];exact Below.one _ _
  have de:Bx W8 U.heap.size #[hF ez, hA ea 0 0, hA (ed ⟨g7,0,ea⟩) 4 aw, gE ha 0] 129:=by rw[<-bO];exact Bx.new U _ _
  rw[bO];have a7: ∀y∈(AT.mk b q (hA (ed ⟨f,0,ea⟩) (8+1) F) r ks I).fp,y<W6.heap.size:=fun y d=>(dp y d).2;have cG:=ad.nodup;rw[AT.fp] at a7 cG;obtain⟨-,⟨aD,aU,au⟩,aH,al,am⟩:=pN.1 cG;have dL:b<W6.heap.size:=a7 b oC;have dN:f<W6.heap.size:=a7 f (by simp[ec]);have bL: ∀y∈AT.iO ks,y<W6.heap.size:=fun y d=>a7 y (eP _ (eh _ (eh _ d)));have dv: ∀y∈q.ownBlock.toList,y<W6.heap.size:=fun y d=>a7 y (eP _ (ep _ d));have dG:Bx (W8.setCell ⟨b,2,ea⟩ (hA (ed ⟨f,0,ea⟩) 5 5)) b (gX ez q (hA (ed ⟨f,0,ea⟩) 5 5) I) 129:=(aY.gD aI).set 2 _;have dF:gW (W8.setCell ⟨b,2,ea⟩ (hA (ed ⟨f,0,ea⟩) 5 5)) gM 77 2 q r.length (gV r):=((aE.ia af).ia aI).same fun y d=>eb _ ⟨b,2,ea⟩ _ _ (fun e=>aD ((show y=b from e)▸(show y∈q.ownBlock.toList by rw[d];simp)));have dA:gW (W8.setCell ⟨b,2,ea⟩ (hA (ed ⟨f,0,ea⟩) 5 5)) gM 88 1 (hA (ed ⟨f,0,ea⟩) 5 5) (ks.take 5).length ((ks.take 5).map AT.ptr):=by
   have db:(ks.take 5).length=5:=by rw[ee,p];rfl
   rw[db,e2];have co:=(ar.ia af).ia aI;rw[p] at co;exact(co.cut (m:=5) oF).same fun y d=>by rw[oG d];exact eb _ ⟨b,2,ea⟩ _ _ aj.1
  have dE:gW (W8.setCell ⟨b,2,ea⟩ (hA (ed ⟨f,0,ea⟩) 5 5)) gM 88 1 (hA (ed ⟨g7,0,ea⟩) 4 aw) (ks.drop 5).length ((ks.drop 5).map AT.ptr):=by rw[cm.o];exact(dt.ia aI).same fun y d=>by rw[oG d];exact eb _ ⟨b,2,ea⟩ _ _ (show g7≠b by omega)
  have cD: ∀u∈ks,h9 gM (W8.setCell ⟨b,2,ea⟩ (hA (ed ⟨f,0,ea⟩) 5 5)) u:=fun u j=>(((aA u j).ij af).ij aI).same fun y d=>eb _ ⟨b,2,ea⟩ _ _ fun e=>ao (AT.iK.2 ⟨u,j,(show y=b from e)▸d⟩);have df:Bx (W8.setCell ⟨b,2,ea⟩ (hA (ed ⟨f,0,ea⟩) 5 5)) U.heap.size (gX ez (hA ea 0 0) (hA (ed ⟨g7,0,ea⟩) 4 aw) 0) 129:=de.jc (a:=⟨b,2,ea⟩) (show U.heap.size≠b by omega) _;have dc:gS (AT.mk b q (hA (ed ⟨g,0,ea⟩) gC.length c) r gC I).fp w (W8.setCell ⟨b,2,ea⟩ (hA (ed ⟨f,0,ea⟩) 5 5)):=((an.ic af).ic aI).set (by rw[AT.fp];simp);have cA:=aa;rw[a6] at cA;obtain⟨dq,dr,ds⟩:=ei.1 cA;have G:=xO (ke:=ks.take 5) (qz:= hA (ed ⟨f,0,ea⟩) 5 5) bj.o (fun y d=>(bi.o y d).2) aF.o.1 (fun e=>by have:=congrArg eL e;rw[ee,p] at this;simp at this) dG dF dA (fun u j=>cD u (ej j))
   (by
     rcases aj.2 with h|⟨a2,bI,Y,bl⟩;. exact .inl h
     . exact .inr ⟨a2,bI,Y,fun aB=>bl (by rw[a6];exact ep _ aB)⟩) dq (fun y d=>aq y (by rw[a6];exact ep _ d)) dc
  have R:ks.map (fun u=>u.nd.er)≠[]:=by simpa using ag
  have dk:(ks.drop 5).isEmpty=false:=by
   cases h:ks.drop 5 with
   | nil=>have:=cm.o;rw[h] at this;simp at this
   | cons _ _=>rfl
  have cw: ∀y∈(AT.mk U.heap.size (hA ea 0 0) (hA (ed ⟨g7,0,ea⟩) 4 aw) [] (ks.drop 5) 0).fp,y=U.heap.size\/y=g7\/y∈AT.iO (ks.drop 5):=by intro y d;rw[AT.fp] at d;simpa[ec] using d
  have aK: ∀y∈AT.iO (ks.drop 5),y∈AT.iO ks:=fun y d=>by rw[a6];exact eh _ d
  refine⟨_,ed (.mk U.heap.size (hA ea 0 0) (hA (ed ⟨g7,0,ea⟩) 4 aw) [] (ks.drop 5) 0),rfl,G,?_,?_,?_⟩;rw[bh.o,zj R (by rw[eg,p];decide),Nd.jJ,AT.jb,AT.gT];simp only[kt,AT.gC,AT.ps,bG.o,fe,e2];rfl;rw[bh.o,zj R (by rw[eg,p];decide)];simp only[eV];rw[Nd.jJ,AT.jb,AT.gT];simp only[kt,AT.gC,AT.ps,fe,e3];rfl;intro dY dx;cases dx;refine⟨.mk _ _ _ _ _ _ oM (by rw[dk];exact df) ⟨rfl, .inl ⟨rfl,rfl⟩⟩ dE fun u j=>cD u (ek j),?_,?_,?_⟩;rw[AT.fp];refine pN.2 ⟨⟨by simp[ec],by simp[ec],dr⟩,⟨by simp[ec],by simp[ec];omega,fun h=>?_⟩,by simp[ec],by simp[ec],fun y d h=>?_⟩;have:=bL _ (aK _ h);omega;have dU:y=g7:=by simpa[ec] using d
  have:=bL _ (aK _ h);omega;intro y d;rcases cw y d with h|h|h
  right;omega
  right;omega
  rcases aq y (aK y h) with h|h
  left;rw[AT.fp];exact eP _ (eh _ (eh _ h))
  exact .inr h;intro y d cM;rw[AT.fp] at cM;have cN:y=b\/y∈q.ownBlock.toList\/y=f\/y∈AT.iO (ks.take 5):=by rcases j4.1 cM with h|h;exact .inl h;rcases jD.1 h with h|h;exact .inr (.inl h);rcases jD.1 h with h|h;exact .inr (.inr (.inl (by simpa[ec] using h)));exact .inr (.inr (.inr h))
  have dV:y<W6.heap.size:=by rcases cN with h|h|h|h;omega;exact dv y h;omega;exact bL y (by rw[a6];exact ep _ h)
  rcases cw y d with h|h|h;omega;omega;rcases cN with Y|Y|Y|Y;exact ao (Y▸aK y h);exact al y Y (aK y h);exact aN (Y▸aK y h);exact ds y Y y h rfl
theorem Br {n:Nd} (h:(jB x n).2=ea):ku (ed n) x=(jB x n).1:=by
 unfold ku;cases d:jB x n with
 | mk a b=>rw[d] at h;simp only at h;subst h;simp only[d]
theorem Bt {n b:Nd} (h:(jB x n).2=ed b):ku (ed n) x=kt [(jB x n).1,b]:=by
 unfold ku;cases d:jB x n with
 | mk a b=>rw[d] at h;simp only at h;subst h;simp only[d]
def ni (gM:Nat) (w:eO) (o:Option AT) (r:Option Nd) (e:Ending) (w':eO):Prop:=
 ∃o',e= ht (jP o')/\(∀t,o'=ed t->h9 gM w' t/\t.fp.Nodup)/\o'.map (fun t=>t.nd.er)=r/\(∀y∈pM o',y∈pM o\/w.heap.size<=y)/\gS (pM o) w w'
theorem Ko (gM:Nat) (x:Kv) (w:eO) (m:gM<=w.heap.size):
  e1 eD 74 #[hG ea,tW x] w (ni gM w ea (ed (ku ea x))):=by
 obtain⟨d,f⟩:=x;obtain⟨D,j⟩:=nM (ni gM w ea (ed (ku ea (d,f))));rw[j];have r:=gF j;have s:=gF m;clear j m;go_enter func74,ntmps74;go_wp2;rw[<-r.o];have E:=s.o;have F:w.heap.size+2=w.heap.size+1+1:=rfl;have t:Below w.heap.size w (w.alloc (hI #[hE d, hE f] 77)):=Below.one _ _;have z:=Bx.ir (w.alloc (hI #[hE d, hE f] 77)) #[hE d, hE f] 77 (w.heap.size+1) oC;have u:=t.alloc oC (hI #[hE d, hE f] 77);refine⟨ed (.mk (w.heap.size+2) (hA (ed ⟨w.heap.size+1,0,ea⟩) 1 1) (hA ea 0 0) [(d,f)] [] 0),rfl,?_,?_,?_,?_⟩;intro G y;cases y;refine⟨.mk _ _ _ _ _ _ oM (Bx.ir _ _ _ _ oC) ?_ ⟨rfl, .inl ⟨rfl,rfl⟩⟩ (fun _ h=>by cases h),?_⟩;exact gW.mk' rfl oM (z.alloc _) (eA _) oF (eA _) rfl;rw[AT.fp];simp[ec,AT.iO];simp only[eV];rw[Nd.jJ,AT.jb,AT.gT];rfl;intro q p;right;have:q=w.heap.size+2\/q=w.heap.size+1:=by rw[pM,AT.fp] at p;simpa[ec,AT.iO] using p
 omega;exact(gS.refl _ w).ic (u.alloc oN _)
theorem Kp (gM:Nat) (x:Kv) (t:AT) (w:eO) (h:h9 gM w t) (U:t.fp.Nodup) (Y:kM t.nd) (D:jZ t.nd.iv) (E:gM<=w.heap.size):
  e1 eD 74 #[t.ptr,tW x] w (ni gM w (ed t) (ed (ku (ed t.nd.er) x))):=by
 obtain⟨r,u⟩:=x;obtain⟨am,I⟩:=nM (ni gM w (ed t) (ed (ku (ed t.nd.er) (r,u))));rw[I];have P:=gF I;have z:Below w.heap.size w (w.alloc (hI #[hE r, hE u] 77)):=Below.one _ _;have F:w.heap.size<=(w.alloc (hI #[hE r, hE u] 77)).heap.size:=z.size;have V:=Kn gM (r,u) t _ (h.ij z) U Y D (jU E F);have G:=gF V;have N:Hid (gS t.fp w (w.alloc (hI #[hE r, hE u] 77))):=gF ((gS.refl _ w).ic z);have R:=gF (gK F (gK E h.lt));have X:t.ptr= hG (ed ⟨t.b,0,ea⟩):=rfl;rw[X];clear I z F V h U Y D E X;go_enter func74,ntmps74;go_wp2_with fail;refine G.o.mono ?_;rintro e j ⟨m,ak,rfl,d,p,q,y⟩;have O:=gF (gK d (gK p (gK q y)));have J:t.b=m.b:=d.b.symm;rw[J];cases ak with
 | none=>simp only[jP];clear d p q y G J;go_wp2;rw[<-P.o];obtain⟨d,p,q,-⟩:=O.o;refine⟨ed m,rfl,?_,?_,?_,?_⟩;intro al M;cases M;exact⟨d.lies,d.nodup⟩;rw[Br q.symm, <-p];rfl;intro f o;rcases d.fp f o with h|h;exact .inl h;exact .inr (jU R.o.1 h);exact N.o.trans d.keep
 | some s=>
  simp only[jP,AT.ptr];clear d p q y G J;go_wp2;rw[<-P.o];obtain⟨d,p,q,y⟩:=O.o;obtain⟨Z,ai,ah,ag⟩:=y s rfl;obtain⟨F,E,an⟩:=R.o;have ap:(w.alloc (hI #[hE r, hE u] 77)).heap.size<=j.heap.size:=d.keep.2.2.2.1;have ab:=N.o.trans d.keep;have aa:Below j.heap.size j (j.alloc (hI #[hG (ed ⟨m.b,0,ea⟩), hG (ed ⟨s.b,0,ea⟩)] 88)):=Below.one _ _;have aj:=Bx.new j #[hG (ed ⟨m.b,0,ea⟩), hG (ed ⟨s.b,0,ea⟩)] 88;have H:=aa.alloc oC (hI #[hF ez, hA ea 0 0, hA (ed ⟨j.heap.size,0,ea⟩) 2 2, gE ha 0] 129);have af:=d.lies.lt;have ae:=Z.lt;refine⟨ed (.mk (j.heap.size+1) (hA ea 0 0) (hA (ed ⟨j.heap.size,0,ea⟩) 2 2) [] [m,s] 0),rfl,?_,?_,?_,?_⟩;intro al M;cases M;refine⟨.mk _ _ _ _ _ _ oM (Bx.ir _ _ _ _ oC) ⟨rfl, .inl ⟨rfl,rfl⟩⟩ ?_ ?_,?_⟩;exact gW.mk' rfl oM (aj.alloc _) (eA _) oF (eA _) rfl;intro c ad;have:c=m\/c=s:=by simpa using ad
  rcases this with rfl|rfl;exact d.lies.ij H;exact Z.ij H;rw[AT.fp];have S:AT.iO [m,s]=m.fp++s.fp:=by rw[sD,sD];simp[AT.iO]
  have T: ∀f∈AT.iO [m,s],f<j.heap.size:=fun f o=>by rw[S] at o;rcases jD.1 o with h|h;exact(af f h).2;exact(ae f h).2
  refine pN.2 ⟨⟨by simp[ec],by simp[ec],?_⟩,⟨by simp[ec],by simp[ec],fun h=>?_⟩,by simp[ec],by simp[ec],fun f o h=>?_⟩;rw[S];exact ei.2 ⟨d.nodup,ai,fun a D b ac e=>ag b ac (e▸D)⟩;have:=T _ h;omega;have ao:f=j.heap.size:=by simpa[ec] using o
  have:=T _ h;omega;rw[Bt q.symm, <-p];simp only[eV];rw[Nd.jJ,AT.jb,AT.gT];rfl;intro f o;rw[pM,AT.fp] at o;have:f=j.heap.size+1\/f=j.heap.size\/f∈m.fp\/f∈s.fp:=by simpa[ec,AT.iO] using o
  rcases this with h|h|h|h
  right;omega
  right;omega
  rcases d.fp f h with h|h;exact .inl h
  right;omega
  rcases ah f h with h|h;exact .inl h
  right;omega
  exact ab.ic H
theorem Kq (gM:Nat) (x:Kv) (o:Option AT) (w:eO) (h: ∀t,o=ed t->h9 gM w t/\t.fp.Nodup/\kM t.nd/\jZ t.nd.iv) (d:gM<=w.heap.size):
  e1 eD 74 #[jP o,tW x] w (ni gM w o (ed (ku (o.map fun t=>t.nd.er) x))):=by
 cases o with
 | none=>exact Ko gM x w d
 | some t=>obtain⟨f,j,m,p⟩:=h t rfl;exact Kp gM x t w f j m p d
theorem Bu {n:Nd} (h:n.gC=[]):ji key n=kR (l6 n.ps key):=by rw[ji,if_pos h]
theorem EE {l:List Kv} (h: ∀q∈l,iB key q.1=ew):l6 l key=l:=by
 unfold l6;refine e0.2 fun q d=>?_;have:=q9 (h q d);simpa using fun e=>this e.symm
theorem EF {ps:List Kv} (key:ByteArray) (h:jZ ps):l6 ps key=if jR ps key then ps.take (jM ps key)++ps.drop (jM ps key+1) else ps:=by
 induction ps with
 | nil=>simp[l6,jR,jM]
 | cons d l D=>
  obtain⟨r,u⟩:=eK.1 h;have p:=D u;unfold jR jM at p |-
  by_cases m:iB d.1 key=ew
  .
   have z:=q9 m;have j:l6 (d::l) key=d::l6 l key:=by unfold l6;rw[List.filter_cons,if_pos (by simpa using z)]
   simp only[eu,m,if_true,j1,List.getElem?_cons_succ,eR,eS,eB] at p |-;rw[j,p];split<;>rfl
  have t:iB d.1 key=false:=by simpa using m
  simp only[eu,t,ey,List.getElem?_cons_zero,eV,Option.some.injEq,eY,eI,eS,fa,ev,if_false,fg]
  by_cases f:d.1=key
  have j:l6 (d::l) key=l6 l key:=by unfold l6;rw[List.filter_cons,if_neg (by simpa using f)]
  rw[j,EE fun q o=>by rw[<-f];exact r q o];simp[f];have s:iB key d.1=true:=by
   cases y:iB key d.1 with
   | true=>rfl
   | false=>exact absurd (tC t y) f
  rw[EE (fun q o=>by rcases j4.1 o with h|h;rw[h];exact s;exact r6 s (r q h))]
  simp[f]
theorem gW.lit (h:gW w gM e k v n xs): ∃o c,v= .slice o n c:=by
 obtain⟨o,c,d,-,-⟩:=h.at;exact⟨o,c,d⟩
def ue (gM:Nat) (key:ByteArray) (t:AT) (w:eO) (e:Ending) (w':eO):Prop:=
 e= ht (.tuple #[])/\ ∃t',sB gM w w' t t'/\t'.nd.er=ji key t.nd.er
theorem Kr (gM:Nat) (s:ByteArray) (t:AT) (w:eO) (h:h9 gM w t) (al:t.fp.Nodup) (ax:t.gC=[]) (aF:t.ps.length<=100) (ai:jZ t.ps):
  e1 eD 121 #[t.ptr, hE s] w (ue gM s t w):=by
 obtain⟨b,pv,z,d,aN,U⟩:=t;simp only[AT.gC,AT.ps] at ax aF ai;subst ax;have R:=EF s ai;have S:=h.hx;have y:=h.hp;have ak:=h.hk;have D:=h.hb;simp only[AT.b,AT.pv,AT.kv,AT.ps,AT.gC,AT.page,List.isEmpty_nil] at S y ak D;simp only[AT.ptr,AT.b];obtain⟨aJ,ah⟩:=nM (ue gM s (.mk b pv z d [] U) w);rw[ah];have aq:=gF ah;have ay:ji s (AT.mk b pv z d [] U).nd.er=kR (l6 d s):=by rw[Bu (by rw[Nd.jN,AT.gT];rfl),Nd.od,AT.jb];rfl
 have E:(b::(pv.ownBlock.toList++(z.ownBlock.toList++AT.iO []))).Nodup:=by rw[AT.fp] at al;exact al
 obtain⟨-,⟨I,T,-⟩,O,-,-⟩:=pN.1 E;obtain⟨f,X⟩:=nM (jM d s);obtain⟨aE,H⟩:=nM (jR d s);have aj:=Bf gM b ew pv z U d s w S y ai oM;rw[X,H] at aj R;have ar:=gF aj;have av:=gF ay;have af:=gF (gK S (gK y ak));have ap:=gF (gK h (gK E D));have aB:=gF (gK I (gK T O));obtain⟨N,an⟩:=S.c2;unfold gX at N;clear ah ay al aj h S y ak E I T O D;go_enter func121,ntmps121;go_wp2_with fail;refine ar.o.mono ?_;rintro e W ⟨rfl,G⟩;have r:=af.o.1.gD G;have u:=af.o.2.1.ia G;have q:=af.o.2.2.ia G;clear N an ar;have Z:=(gS.refl (AT.mk b pv z d [] U).fp w).ic G;obtain⟨N,an⟩:=r.c2;unfold gX at N;cases aE with
 | false=>have ag:=gF R;have ae:=gF (gK Z (gK r (gK u q)));clear R X H G r u q Z;go_wp2;refine fl (v:= .tuple #[]) (by simp[results,results121,go_sem]) rfl ?_;rw[<-aq.o];obtain⟨hK,r,u,q⟩:=ae.o;obtain⟨h,E,D⟩:=ap.o;refine⟨rfl,_,zi E (fun j m=>(h.lt j m).2) D r u q (.inl rfl) hK,?_⟩;rw[av.o,ag.o,Nd.jJ,AT.jb,AT.gT];rfl
 | true=>
  have Y:f<d.length:=by unfold jR at H;rw[X] at H;have:=of_decide_eq_true H;rcases Nat.lt_or_ge f d.length with h|h;exact h;rw[fi oM] at this;cases this
  obtain⟨p,y⟩: ∃p,d.length=p+1:=⟨d.length - 1,oM⟩;have aw:=Kb gM pv p (gV d) W (by rw[<-y];exact u) f oM (tT _) oM;have au:=gF aw;have ag:=gF R;have ae:=gF (gK Z (gK r (gK u (gK q (gK y Y)))));have aM:f<=1000:=oM
  clear R X H G r u q Z aw y Y;go_wp2_with fail;refine au.o.mono ?_;rintro e M ⟨aQ,rfl,am,aa,P⟩;obtain⟨J,F,rfl⟩:=am.lit;obtain⟨hK,r,u,q,aH,Y⟩:=ae.o;obtain⟨I,T,O⟩:=aB.o;have V:=r.grown aa (fun e=>I (by rw[<-e];simp));have az:=q.same fun j m=>aa.block j (q.lt j m).2 (fun e=>O j (by rw[<-e];simp) (by rw[m];simp));have ao:=hK.pG aa (fun aP aI=> .inl (by rw[AT.fp,aI];simp));have aK:M.cell? ⟨b,1,ea⟩=ed pv:=by rw[V.cell];rfl
  have aL:M.frozen? ⟨b,1,ea⟩=false:=V.free 1;have aO:=V.lt;have ad:Bx (M.setCell ⟨b,1,ea⟩ (hA J p F)) b (gX ew (hA J p F) z U) 129:=V.set 1 _;have ab:gW (M.setCell ⟨b,1,ea⟩ (hA J p F)) gM 88 1 z 0 []:=az.same fun j m=>eb _ ⟨b,1,ea⟩ _ _ (fun e=>T ((show j=b from e)▸(show j∈z.ownBlock.toList by rw[m];simp)));have ac:gW (M.setCell ⟨b,1,ea⟩ (hA J p F)) gM 77 2 (hA J p F) (d.take f++d.drop (f+1)).length (gV (d.take f++d.drop (f+1))):=by
   have aC:(d.take f++d.drop (f+1)).length=p:=oN
   have aD:gV (d.take f++d.drop (f+1))=(gV d).take (f * 2)++(gV d).drop ((f+1) * 2):=by rw[<-xL, <-xM];simp[gV]
   rw[aC,aD];refine am.same fun j m=>eb _ ⟨b,1,ea⟩ _ _ fun e=>?_;rw[P] at m;exact I ((show j=b from e)▸(show j∈pv.ownBlock.toList by rw[m];simp))
  have aA:=gF (gK ad (gK ab (gK ac (gK (ao.set (k:=1) (v:= hA J p F) (b:=b) (by rw[AT.fp];simp)) P))));clear hK r u q aH Y I T O az ao ad ab ac am aa P V N an au;go_wp2;refine fl (v:= .tuple #[]) (by simp[results,results121,go_sem]) rfl ?_;rw[<-aq.o];obtain⟨ad,ab,ac,aG,P⟩:=aA.o;obtain⟨h,E,D⟩:=ap.o;refine⟨rfl,_,zi E (fun j m=>(h.lt j m).2) D ad ac ab (.inl P) aG,?_⟩;rw[av.o,ag.o,if_pos trivial,Nd.jJ,AT.jb,AT.gT];rfl
theorem Ks (gM:Nat) (t:AT) (w:eO) (h:h9 gM w t):e1 eD 166 #[t.ptr] w fun e w'=>e= ht (hF t.nd.iX)/\w'=w:=by
 have f:t.nd.iX=if t.gC.isEmpty then decide (t.ps.length<2) else decide (t.gC.length<4):=by
  obtain⟨b,R,I,P,D,O⟩:=t;unfold Nd.iX;rw[AT.gT,AT.jb];cases D with
  | nil=>simp[AT.gC,AT.ps]
  | cons c l=>rw[if_neg (by simp[AT.gC])];simp only[AT.gC,AT.ps,eg,fm,ev,if_false];exact decide_eq_decide.2 Iff.rfl
 obtain⟨S,p⟩:=nM t.nd.iX;rw[p];rw[p] at f;have m:=gF f;have j:=h.hx;obtain⟨M,G,q⟩:=h.hp.lit;obtain⟨N,H,d⟩:=h.hk.lit;rw[q,d] at j;have y:t.ptr= .pointer (ed ⟨t.b,0,ea⟩):=rfl;rw[y];generalize t.b=b at *;obtain⟨n,u⟩:=nM t.ps.length;obtain⟨F,s⟩:=nM t.gC.length;obtain⟨E,r⟩:=nM t.gC.isEmpty;rw[u,s,r] at j f;obtain⟨z,J⟩:=j.c2;unfold gX at z;clear p m h q d y u s r j;have m:=gF f;clear f;go_enter func166,ntmps166;cases E
 case' true=>
  by_cases d:n<2
  rotate_left
 rotate_left 2
 case' false=>
  by_cases d:F<4
  rotate_left
 all_goals go_wp2;go_ret;exact⟨by rw[m.o];simp[d]<;>omega,rfl⟩
theorem EG (gM:Nat) (t:AT) (w:eO) (h:h9 gM w t):e1 eD 193 #[t.ptr] w fun e w'=>e= ht (hF t.nd.jO)/\w'=w:=by
 have f:t.nd.jO=if t.gC.isEmpty then decide (2<t.ps.length) else decide (4<t.gC.length):=by
  obtain⟨b,R,I,P,D,O⟩:=t;unfold Nd.jO;rw[AT.gT,AT.jb];cases D with
  | nil=>simp[AT.gC,AT.ps]
  | cons c l=>rw[if_neg (by simp[AT.gC])];simp only[AT.gC,AT.ps,eg,fm,ev,if_false];exact decide_eq_decide.2 Iff.rfl
 obtain⟨S,p⟩:=nM t.nd.jO;rw[p];rw[p] at f;have m:=gF f;have j:=h.hx;obtain⟨M,G,q⟩:=h.hp.lit;obtain⟨N,H,d⟩:=h.hk.lit;rw[q,d] at j;have y:t.ptr= .pointer (ed ⟨t.b,0,ea⟩):=rfl;rw[y];generalize t.b=b at *;obtain⟨n,u⟩:=nM t.ps.length;obtain⟨F,s⟩:=nM t.gC.length;obtain⟨E,r⟩:=nM t.gC.isEmpty;rw[u,s,r] at j f;obtain⟨z,J⟩:=j.c2;unfold gX at z;clear p m h q d y u s r j;have m:=gF f;clear f;go_enter func193,ntmps193;cases E
 case' true=>
  by_cases d:2<n
  rotate_left
 rotate_left 2
 case' false=>
  by_cases d:4<F
  rotate_left
 all_goals go_wp2;go_ret;exact⟨by rw[m.o];simp[d]<;>omega,rfl⟩
theorem Kt (gM:Nat) (t:AT) (w:eO) (h:h9 gM w t) (s:t.ps.length<=1000) (u:t.gC.length<=1000):e1 eD 192 #[t.ptr] w fun e w'=>e= ht (gE ha t.nd.size)/\Below w.heap.size w w':=by
 have q:t.nd.size=t.ps.length+t.gC.length:=by unfold Nd.size;rw[AT.gT,AT.jb,eg]
 rw[q];have j:=h.hx;obtain⟨I,E,m⟩:=h.hp.lit;obtain⟨J,F,o⟩:=h.hk.lit;rw[m,o] at j;have p:t.ptr= .pointer (ed ⟨t.b,0,ea⟩):=rfl;rw[p];generalize t.b=b at *;obtain⟨n,f⟩:=nM t.ps.length;obtain⟨z,d⟩:=nM t.gC.length;rw[f,d] at j;rw[f] at s;rw[d] at u;rw[f,d];obtain⟨r,H⟩:=j.c2;unfold gX at r;clear q h m o p f d j;have G:=jv.cells w;go_enter func192,ntmps192;go_upto_region 1 with fail
 refine p3 oP oP ?_;repeat (any_goals (first|go_big_quiet_skip| (go_big_quiet_want;go_big_quiet_op;first|go_big_quiet_on|go_big_quiet_call ((fail)))|quiet_step ((fail))))
 refine eG ?_;rintro D ⟨⟨_,y⟩,rfl⟩;go_wp2;refine fl (v:= gE ha ((n+z:Nat):Int)) (by simp[results,results192,go_sem]) rfl ?_;exact⟨rfl,y⟩
theorem Ku (gM:Nat) (a b:AT) (w:eO) (am:h9 gM w a) (t:h9 gM w b) (ad:a.b≠b.b) (ac: ∀v∈[a.pv,a.kv,b.pv,b.kv],v.ownBlock≠ed a.b) (bc:a.ps.length<=100/\b.ps.length<=100/\a.gC.length<=100/\b.gC.length<=100):
  e1 eD 194 #[a.ptr,b.ptr] w fun e w'=>e= ht (.tuple #[])/\ ∃v1 v2,gW w' w.heap.size 77 2 v1 (a.ps.length+b.ps.length) (gV a.ps++gV b.ps)/\gW w' w.heap.size 88 1 v2 (a.gC.length+b.gC.length) (a.gC.map AT.ptr++b.gC.map AT.ptr)/\
   Bx w' a.b (gX a.gC.isEmpty v1 v2 a.page) 129/\(∀g,v1.ownBlock=ed g->v2.ownBlock≠ed g)/\gS [a.b] w w':=by
 have s:=am.hx;have u:=t.hx;obtain⟨M,N,O,P⟩:=bc;obtain⟨ae,S,af,T⟩:a.pv.ownBlock≠ed a.b/\a.kv.ownBlock≠ed a.b/\b.pv.ownBlock≠ed a.b/\b.kv.ownBlock≠ed a.b:=⟨ac _ oC,ac _ oC,ac _ oC,ac _ oC⟩;have E:=am.hp;have D:=am.hk;have G:=t.hp;have F:=t.hk;have aP:a.ptr= .pointer (ed ⟨a.b,0,ea⟩):=rfl;have aQ:b.ptr= .pointer (ed ⟨b.b,0,ea⟩):=rfl;rw[aP,aQ];obtain⟨aH,ax,aT⟩:=E.lit;obtain⟨ap,al,aU⟩:=D.lit;obtain⟨aY,aN,aV⟩:=G.lit;obtain⟨aZ,aO,aW⟩:=F.lit;rw[aT] at s E ae;rw[aU] at s D S;rw[aV] at u G af;rw[aW] at u F T;generalize a.b=ab at *;generalize b.b=bb at *;obtain⟨R,aB⟩: ∃R,(fun(e:Ending) (w':eO)=>e= .returned (.tuple #[])/\ ∃v1 v2,gW w' w.heap.size 77 2 v1 (a.ps.length+b.ps.length) (gV a.ps++gV b.ps)/\gW w' w.heap.size 88 1 v2 (a.gC.length+b.gC.length) (a.gC.map AT.ptr++b.gC.map AT.ptr)/\
   Bx w' ab (gX a.gC.isEmpty v1 v2 a.page) 129/\(∀g,v1.ownBlock=ed g->v2.ownBlock≠ed g)/\gS [ab] w w')=R:=⟨_,rfl⟩
 rw[aB];have a5:=gF aB;have au:=gF (gK s (gK u (gK E (gK D (gK G F)))));have aK:=gF (gK M (gK N (gK O P)));have a4:=gF (gK ae (gK S (gK af (gK T ad))));obtain⟨Y,aF⟩:=s.c2;unfold gX at Y;obtain⟨Z,aG⟩:=u.c2;unfold gX at Z;clear aB s u M N O P ae S af T E D G F aP aQ aT aU aV aW am t ac ad;have ay:=jv.cells w;go_enter func194,ntmps194;go_upto_region 0 with fail
 refine Bn oP (.tmp 0) (hG (ed ⟨ab,0,ea⟩)) rfl rfl rfl oP oP oP (fun _ _ _ h=>h) ?_;simp only[eW,gU];refine Bl (W0:=w) 1 10 4 #[ew,ew,ew,ew,ew,ew,ew,ew,ew,ew,ez,ez,ez,ez] (fun i=>if i=2 then ed (iw (hG (ed ⟨ab,0,ea⟩))) else if i=6 then ed (iw (hG (ed ⟨bb,0,ea⟩))) else if i=9 then ed ⟨fun H=> hA (ed ⟨H.lo,0,ea⟩) 2 2,fun H W=>Bx W H.lo #[hA aH a.ps.length ax, hA aY b.ps.length aN] 41⟩ else ea) oO oF oO oO oP (e5 _ _).drew ?_;simp only[eS,fa,eR,eY];refine LW.b 1 2 ?_;simp only[jC];repeat (go_big_quiet_step (fail))
 refine eG ?_;refine LW.z ?_ ?_;intro I _;exact pC oO;intro _;simp only[eW,gU]
 (try simp only[iw])
 refine LW.b 3 6 ?_;simp only[jC];repeat (go_big_quiet_step (fail))
 refine eG ?_;refine LW.z ?_ ?_;intro I _;exact pC oO;intro _;simp only[eW,gU]
 (try simp only[iw])
 refine LW.b 2 9 ?_;simp only[jC];repeat (go_big_quiet_step (fail))
 refine eG ?_;refine LW.z ?_ ?_;. intro I ba;unfold ix;go_simp;exact⟨Below.one _ _,fun _=>undef,rfl,fun bh t=>(Bx.new I.w _ _).gD t⟩
 intro a0;simp only[eW,gU];refine LW.done ?_;intro av y;have aa:Bx av a0.lo #[.slice aH a.ps.length ax, .slice aY b.ps.length aN] 41:=y.get 9 rfl rfl;have j:=y.below;obtain⟨s,u,E,D,G,F⟩:=au.o;obtain⟨M,N,O,P⟩:=aK.o;have ak:=gF (J7 gM av a0.lo _ _ aa a.ps.length b.ps.length (gV a.ps) (gV b.ps) (E.ia j) (G.ia j) (tT _) (tT _) oM oM);have ai:=gF (gK (s.gD j) (gK (u.gD j) (gK (D.ia j) (gK (F.ia j) j))));clear y ay j Y Z aF aG s u E D G F M N O P aa;refine iG 10 fun K hK=>?_;go_simp;refine ak.o.mono ?_;rintro e m ⟨v1,rfl,an,J⟩;refine hK _ _ ?_;clear hK K;simp only[gU];obtain⟨q,p,rfl⟩:=(gW.own an).lit;have aq:=ai.o.1.gD J;have a3:=ai.o.2.1.gD J;have a9:m.cell? ⟨ab,1,ea⟩=ed (.slice aH a.ps.length ax):=by rw[aq.cell];rfl
 have a':m.frozen? ⟨ab,1,ea⟩=false:=aq.free 1;refine iG 11 fun K hK=>?_;go_simp;refine hK _ _ ?_;clear hK K;refine iG 12 fun K hK=>?_;go_simp;refine hK _ _ ?_;clear hK K;refine iG 13 fun K hK=>?_;go_simp;refine hK _ _ ?_;clear hK K;refine kS ?_;obtain⟨-,-,aR,aS,j⟩:=ai.o;obtain⟨ae,S,af,T,ad⟩:=a4.o;have aX:ab<w.heap.size:=au.o.1.lt;have aE: ∀d,(eo q (a.ps.length+b.ps.length) p).ownBlock=ed d->av.heap.size<=d/\d<m.heap.size:=fun d f=>(gW.own an).lt d f;have ah:Bx (m.setCell ⟨ab,1,ea⟩ (hA q (a.ps.length+b.ps.length) p)) ab (gX a.gC.isEmpty (hA q (a.ps.length+b.ps.length) p) (hA ap a.gC.length al) a.page) 129:=aq.set 1 _;have ar:=a3.jc (a:=⟨ab,1,ea⟩) (show bb≠ab from fun e=>ad e.symm) (hA q (a.ps.length+b.ps.length) p);have V:=(aR.ia J).same (w':=m.setCell ⟨ab,1,ea⟩ (hA q (a.ps.length+b.ps.length) p)) fun d f=>eb _ ⟨ab,1,ea⟩ _ _ (fun e=>S (by rw[f];exact congrArg ed e));have X:=(aS.ia J).same (w':=m.setCell ⟨ab,1,ea⟩ (hA q (a.ps.length+b.ps.length) p)) fun d f=>eb _ ⟨ab,1,ea⟩ _ _ (fun e=>T (by rw[f];exact congrArg ed e));have ag:=(gW.own (qL an j.size)).same (w':=m.setCell ⟨ab,1,ea⟩ (hA q (a.ps.length+b.ps.length) p)) fun d f=>eb _ ⟨ab,1,ea⟩ _ _ (fun e=>by have az:=(aE d f).1;have aA:d=ab:=e;have:=j.size;omega);have U:gS [ab] w (m.setCell ⟨ab,1,ea⟩ (hA q (a.ps.length+b.ps.length) p)):=(((gS.refl _ w).ic j).ic J).set oC;have a7:Hid (∀d,(eo q (a.ps.length+b.ps.length) p).ownBlock=ed d->d<m.heap.size):=gF fun d f=>(aE d f).2;have a6:Hid ((m.setCell ⟨ab,1,ea⟩ (hA q (a.ps.length+b.ps.length) p)).heap.size=m.heap.size):=gF oC;have aj:=gF (gK ah (gK ar (gK V (gK X (gK ag U)))));clear aq a3 a9 a' aR aS j ae S af T ad aX aE ah ar V X ag U an J ai ak;generalize m.setCell ⟨ab,1,ea⟩ (hA q (a.ps.length+b.ps.length) p)=W4 at *;obtain⟨Y,aF⟩:=aj.o.1.c2;unfold gX at Y;have Z:=aj.o.2.1.cell;unfold gX at Z;have aG:=aj.o.2.1.lt;have ay:=jv.cells W4;go_upto_region 1 with fail
 refine Bn oP (.tmp 0) (hG (ed ⟨ab,0,ea⟩)) rfl rfl rfl oP oP oP (fun _ _ _ h=>h) ?_;simp only[eW,gU];refine Bl (W0:=W4) 1 10 4 #[ew,ew,ew,ew,ew,ew,ew,ew,ew,ew,ez,ez,ez,ez] (fun i=>if i=2 then ed (iw (hG (ed ⟨ab,0,ea⟩))) else if i=6 then ed (iw (hG (ed ⟨bb,0,ea⟩))) else if i=9 then ed ⟨fun H=> hA (ed ⟨H.lo,0,ea⟩) 2 2,fun H W=>Bx W H.lo #[hA ap a.gC.length al, hA aZ b.gC.length aO] 127⟩ else ea) oO oF oO oO oP (e5 _ _).drew ?_;simp only[eS,fa,eR,eY];refine LW.b 1 2 ?_;simp only[jC];repeat (go_big_quiet_step (fail))
 refine eG ?_;refine LW.z ?_ ?_;intro I _;exact pC oO;intro _;simp only[eW,gU]
 (try simp only[iw])
 refine LW.b 3 6 ?_;simp only[jC];repeat (go_big_quiet_step (fail))
 refine eG ?_;refine LW.z ?_ ?_;intro I _;exact pC oO;intro _;simp only[eW,gU]
 (try simp only[iw])
 refine LW.b 2 9 ?_;simp only[jC];repeat (go_big_quiet_step (fail))
 refine eG ?_;refine LW.z ?_ ?_;. intro I ba;unfold ix;go_simp;exact⟨Below.one _ _,fun _=>undef,rfl,fun bh t=>(Bx.new I.w _ _).gD t⟩
 intro a1;simp only[eW,gU];refine LW.done ?_;intro aw y;have aa:Bx aw a1.lo #[.slice ap a.gC.length al, .slice aZ b.gC.length aO] 127:=y.get 9 rfl rfl;have r:=y.below;obtain⟨ah,ar,V,X,ag,U⟩:=aj.o;obtain⟨M,N,O,P⟩:=aK.o;have ak:=gF (J9 gM aw a1.lo _ _ aa a.gC.length b.gC.length (a.gC.map AT.ptr) (b.gC.map AT.ptr) (V.ia r) (X.ia r) (by intro bg aD;obtain⟨k,-,rfl⟩:=et.1 aD;rfl) (by intro bg aD;obtain⟨k,-,rfl⟩:=et.1 aD;rfl) oM oM);have aJ:=gF (gK (ah.gD r) (gK (ag.ia r) (gK (U.ic r) r)));clear y ay r Y Z aF aG ah ar V X ag U M N O P aa;refine iG 10 fun K hK=>?_;go_simp;refine ak.o.mono ?_;rintro e aM ⟨v2,rfl,ao,aC⟩;refine hK _ _ ?_;clear hK K;simp only[gU];obtain⟨bf,a8,rfl⟩:=(gW.own ao).lit;have aI:=aJ.o.1.gD aC;have bi:aM.cell? ⟨ab,2,ea⟩=ed (.slice ap a.gC.length al):=by rw[aI.cell];rfl
 have bj:aM.frozen? ⟨ab,2,ea⟩=false:=aI.free 2;refine iG 11 fun K hK=>?_;go_simp;refine hK _ _ ?_;clear hK K;refine iG 12 fun K hK=>?_;go_simp;refine hK _ _ ?_;clear hK K;refine iG 13 fun K hK=>?_;go_simp;refine hK _ _ ?_;clear hK K;refine kS ?_;go_wp2;refine bodyPost_end (v:= .tuple #[]) (by simp[results,results194,go_sem]) rfl ?_;rw[<-a5.o];obtain⟨-,a2,aL,r⟩:=aJ.o;have aX:ab<w.heap.size:=au.o.1.lt;have be:w.heap.size<=aw.heap.size:=aL.2.2.2.1;have bl:=r.size;refine⟨rfl, hA q (a.ps.length+b.ps.length) p, hA bf (a.gC.length+b.gC.length) a8,?_,?_,aI.set 2 _,?_,?_⟩;exact(a2.ia aC).same fun d f=>eb _ ⟨ab,2,ea⟩ _ _ (fun e=>by have az:=(a2.lt d f).1;have aA:d=ab:=e;omega);exact(gW.own (qL ao be)).same fun d f=>eb _ ⟨ab,2,ea⟩ _ _ (fun e=>by have az:=((gW.own ao).lt d f).1;have aA:d=ab:=e;omega);intro d f bd;have az:=a7.o d f;have aA:=((gW.own ao).lt d bd).1;have bk:=a6.o;omega;exact(aL.ic aC).set oC
theorem gS.xQ (h:gS L W A) (m:W.heap.size<=b):gS L W (A.setCell ⟨b,k,ea⟩ v):=by
 refine⟨?_,?_,?_,?_,fun c d f=>(eb A ⟨b,k,ea⟩ v c fun e=>by have j:c=b:=e;omega).trans (h.2.2.2.2 c d f)⟩;exact(iT (b:=b) (k:=k) (v:=v) (e5 0 A) (fj _)).os.trans h.1;exact(iT (b:=b) (k:=k) (v:=v) (e5 0 A) (fj _)).tape.trans h.2.1;exact(iT (b:=b) (k:=k) (v:=v) (e5 0 A) (fj _)).output.trans h.2.2.1;simpa using h.2.2.2.1
theorem zk (h:gW w gM e k (hA (ed ⟨g,0,ea⟩) n c) n xs):gO (fun y=>y=g) w (ed ⟨g,0,ea⟩) xs:=by
 obtain⟨o,p,d,-,j⟩:=h.at;have f:ed ⟨g,0,ea⟩=o:=by have:=d;simp at this;exact this.1
 subst f;exact j.mono fun y m=>oG m
theorem Kw (gM:Nat) (a:Nat) (v1 v2:ff) (page:Int) (n:Nat) (xs:List ff) (w:eO) (ad:Bx w a (gX ew v1 v2 page) 129) (ac:gW w gM 77 2 v1 n xs) (f: ∀u∈xs,u.oneCell'=ew) (a1:n<=1000) (k:Nat) (a0:k<n) (ay:v1.ownBlock≠ed a):
  e1 eD 195 #[hG (ed ⟨a,0,ea⟩), gE ha k] w fun e w'=>e= ht (hG (ed ⟨w.heap.size,0,ea⟩))/\ ∃r s,Bx w' a (gX ew r v2 page) 129/\Bx w' w.heap.size (gX ew s (hA ea 0 0) 0) 129/\
   gW w' (w.heap.size+1) 77 2 r k (xs.take (k * 2))/\gW w' (w.heap.size+1) 77 2 s (n - k) (xs.drop (k * 2))/\(∀g,r.ownBlock=ed g->s.ownBlock≠ed g)/\gS [a] w w':=by
 obtain⟨g,c,rfl,aW,aY,aX,aZ⟩:=ac.pos oM;have aV:g≠a:=fun e=>ay (by rw[<-e];rfl);obtain⟨R,ai⟩: ∃R,(fun(e:Ending) (w':eO)=>e= ht (hG (ed ⟨w.heap.size,0,ea⟩))/\ ∃r s,Bx w' a (gX ew r v2 page) 129/\Bx w' w.heap.size (gX ew s (hA ea 0 0) 0) 129/\
   gW w' (w.heap.size+1) 77 2 r k (xs.take (k * 2))/\gW w' (w.heap.size+1) 77 2 s (n - k) (xs.drop (k * 2))/\(∀g,r.ownBlock=ed g->s.ownBlock≠ed g)/\gS [a] w w')=R:=⟨_,rfl⟩
 rw[ai];have aK:=gF ai;have aT:c≠k:=oM
 have X:Below w.heap.size w (w.alloc (hI #[hF ew, hA ea 0 0, hA ea 0 0, gE ha 0] 129)):=Below.one _ _;have an:=Bx.new w #[hF ew, hA ea 0 0, hA ea 0 0, gE ha 0] 129;have E:=ad.gD X;have am:=ac.ia X;have ae:xs.length=n * 2:=ac.1;have aj:(xs.drop (k * 2)).length=(n - k) * 2:=by rw[ef,ae];omega
 have aC:(xs.take (k * 2)).length=k * 2:=by rw[ee,ae];omega
 have az:=zk am;have aA:gO (fun y=>y=g) (w.alloc (hI #[hF ew, hA ea 0 0, hA ea 0 0, gE ha 0] 129)) (ed ⟨g,k * 2,ea⟩) (xs.drop (k * 2)):=by have:=az.cut (k * 2) ((n - k) * 2);rw[eM (by rw[aj];exact eA _),fg] at this;exact this
 have ap:=gF (Bi _ ⟨g,k * 2,ea⟩ (n - k) (c - k) (xs.drop (k * 2)) aj aA (fun u ak=>f u (ek ak)) oM);obtain⟨N,Y⟩:=nM w.heap.size;rw[Y] at an;have U:=gF (gK E (gK am (gK an X)));have ar:=gF (gK aC (gK f ae));have aS:a<w.heap.size:=ad.lt;have aR:a<N:=oM
 have G:=ad.cell;unfold gX at G;clear ai ac X an E am ae aj aC az aA ad ay f;go_enter func195,ntmps195;go_wp2_with fail;refine ap.o.mono ?_;rintro e W1 ⟨s,rfl,aa,H⟩;obtain⟨m,j,rfl⟩:=(gW.own aa).lit;clear ap G;have E:=U.o.1.gD H;have S:=U.o.2.2.1.gD H;obtain⟨G,aO⟩:=E.c2;unfold gX at G;have aL:W1.cell? ⟨N,1,ea⟩=ed (.slice ea 0 0):=by rw[S.cell];rfl
 have aM:W1.frozen? ⟨N,1,ea⟩=false:=S.free 1;have aE:=S.lt;have ax:N≠a:=oM
 have O:=E.jc (a:=⟨N,1,ea⟩) (show a≠N from fun e=>ax e.symm) (hA m (n - k) j);have aU:g<N:=oM
 have aH:=(U.o.2.1.ia H).same (w':=W1.setCell ⟨N,1,ea⟩ (hA m (n - k) j)) fun y d=>eb _ ⟨N,1,ea⟩ _ _ (fun e=>by have f:=oG d;have D:y=N:=e;omega);have aB:gO (fun y=>y=g) (W1.setCell ⟨N,1,ea⟩ (hA m (n - k) j)) (ed ⟨g,0,ea⟩) (xs.take (k * 2)):=by have:=(zk aH).cut 0 (k * 2);simpa using this
 have aq:=gF (Bi _ ⟨g,0,ea⟩ k c (xs.take (k * 2)) ar.o.1 aB (fun u ak=>ar.o.2.1 u (ej ak)) oM);have T:Bx (W1.setCell ⟨N,1,ea⟩ (hA m (n - k) j)) N #[hF ew, hA m (n - k) j, hA ea 0 0, gE ha 0] 129:=S.set 1 _;have t: ∀y,(eo m (n - k) j).ownBlock=ed y->N+1<=y/\y<W1.heap.size:=fun y d=>by
  have f:=(gW.own aa).lt y d;have D:(w.alloc (hI #[hF ew, hA ea 0 0, hA ea 0 0, gE ha 0] 129)).heap.size=w.heap.size+1:=oC
  rw[D,Y] at f;exact f
 have J:=(gW.own aa).same (w':=W1.setCell ⟨N,1,ea⟩ (.slice m (n - k) j)) fun y d=>eb _ ⟨N,1,ea⟩ _ _ (fun e=>by have f:=(t y d).1;have D:y=N:=e;omega);have au:gS [a] w W1:=((gS.refl _ w).ic U.o.2.2.2).ic H;have F:gS [a] w (W1.setCell ⟨N,1,ea⟩ (.slice m (n - k) j)):=au.xQ oM;have ao:=gF (gK O (gK T (gK t (gK J F))));clear E S O aH aB T t J au F aa H;go_wp2_with fail;refine aq.o.mono ?_;rintro e z ⟨r,rfl,ab,I⟩;obtain⟨q,p,rfl⟩:=(gW.own ab).lit;obtain⟨O,T,t,J,F⟩:=ao.o;have P:=O.gD I;have aI:=T.gD I;have aF:=J.ia I;have av:=F.ic I;have aD:W1.heap.size=(W1.setCell ⟨N,1,ea⟩ (.slice m (n - k) j)).heap.size:=oC
 have aw:N+1<=(W1.setCell ⟨N,1,ea⟩ (hA m (n - k) j)).heap.size:=by rw[<-aD];exact aE
 have al: ∀y,(eo q k p).ownBlock=ed y->W1.heap.size<=y:=fun y d=>by have f:=((gW.own ab).lt y d).1;omega
 have aG:=gW.own (qL ab aw);have ag:Bx (z.setCell ⟨a,1,ea⟩ (hA q k p)) a (gX ew (hA q k p) v2 page) 129:=P.set 1 _;have ah:=aI.jc (a:=⟨a,1,ea⟩) (show N≠a from ax) (hA q k p);have af:=aG.same (w':=z.setCell ⟨a,1,ea⟩ (hA q k p)) fun y d=>eb _ ⟨a,1,ea⟩ _ _ (fun e=>by have f:=al y d;have D:y=a:=e;omega);have M:=aF.same (w':=z.setCell ⟨a,1,ea⟩ (hA q k p)) fun y d=>eb _ ⟨a,1,ea⟩ _ _ (fun e=>by have f:=(t y d).1;have D:y=a:=e;omega);have V:gS [a] w (z.setCell ⟨a,1,ea⟩ (hA q k p)):=av.set oC;have Z: ∀y,(eo q k p).ownBlock=ed y->(eo m (n - k) j).ownBlock≠ed y:=fun y d aN=>by have f:=al y d;have D:=(t y aN).2;omega
 have aP:z.cell? ⟨a,1,ea⟩=ed (hA (ed ⟨g,0,ea⟩) n c):=by rw[P.cell];rfl
 have aQ:z.frozen? ⟨a,1,ea⟩=false:=P.free 1;have a2:=P.lt;have aJ:=gF (gK ag (gK ah (gK af (gK M (gK Z V)))));clear aq G aO aL aM aE O T t J F P aI aF av aD aw al aG ag ah af M V Z ab I ao;go_wp2;rw[<-aK.o];obtain⟨ag,ah,af,M,Z,V⟩:=aJ.o;rw[show(w.alloc (hI #[hF ew, hA ea 0 0, hA ea 0 0, gE ha 0] 129)).heap.size=w.heap.size+1 by simp,Y] at M;rw[Y];exact⟨rfl,_,_,ag,ah,af,M,Z,V⟩
theorem Ky (gM:Nat) (a:Nat) (v1 v2:ff) (page:Int) (n:Nat) (xs:List ff) (w:eO) (ad:Bx w a (gX ez v2 v1 page) 129) (ac:gW w gM 88 1 v1 n xs) (f: ∀u∈xs,u.oneCell'=ew) (a1:n<=1000) (k:Nat) (a0:k<n) (ay:v1.ownBlock≠ed a):
  e1 eD 195 #[hG (ed ⟨a,0,ea⟩), gE ha k] w fun e w'=>e= ht (hG (ed ⟨w.heap.size,0,ea⟩))/\ ∃r s,Bx w' a (gX ez v2 r page) 129/\Bx w' w.heap.size (gX ez (hA ea 0 0) s 0) 129/\
   gW w' (w.heap.size+1) 88 1 r k (xs.take k)/\gW w' (w.heap.size+1) 88 1 s (n - k) (xs.drop k)/\(∀g,r.ownBlock=ed g->s.ownBlock≠ed g)/\gS [a] w w':=by
 obtain⟨g,c,rfl,aW,aY,aX,aZ⟩:=ac.pos oM;have aV:g≠a:=fun e=>ay (by rw[<-e];rfl);obtain⟨R,ai⟩: ∃R,(fun(e:Ending) (w':eO)=>e= ht (hG (ed ⟨w.heap.size,0,ea⟩))/\ ∃r s,Bx w' a (gX ez v2 r page) 129/\Bx w' w.heap.size (gX ez (hA ea 0 0) s 0) 129/\
   gW w' (w.heap.size+1) 88 1 r k (xs.take k)/\gW w' (w.heap.size+1) 88 1 s (n - k) (xs.drop k)/\(∀g,r.ownBlock=ed g->s.ownBlock≠ed g)/\gS [a] w w')=R:=⟨_,rfl⟩
 rw[ai];have aK:=gF ai;have aT:c≠k:=oM
 have X:Below w.heap.size w (w.alloc (hI #[hF ez, hA ea 0 0, hA ea 0 0, gE ha 0] 129)):=Below.one _ _;have an:=Bx.new w #[hF ez, hA ea 0 0, hA ea 0 0, gE ha 0] 129;have E:=ad.gD X;have am:=ac.ia X;have ae:xs.length=n * 1:=ac.1;have aj:(xs.drop k).length=(n - k) * 1:=by rw[ef,ae];omega
 have aC:(xs.take k).length=k * 1:=by rw[ee,ae];omega
 have az:=zk am;have aA:gO (fun y=>y=g) (w.alloc (hI #[hF ez, hA ea 0 0, hA ea 0 0, gE ha 0] 129)) (ed ⟨g,k,ea⟩) (xs.drop k):=by have:=az.cut k ((n - k) * 1);rw[eM (by rw[aj];exact eA _),fg] at this;exact this
 have ap:=gF (Bj _ ⟨g,k,ea⟩ (n - k) (c - k) (xs.drop k) aj aA (fun u ak=>f u (ek ak)) oM);obtain⟨N,Y⟩:=nM w.heap.size;rw[Y] at an;have U:=gF (gK E (gK am (gK an X)));have ar:=gF (gK aC (gK f ae));have aS:a<w.heap.size:=ad.lt;have aR:a<N:=oM
 have G:=ad.cell;unfold gX at G;clear ai ac X an E am ae aj aC az aA ad ay f;go_enter func195,ntmps195;go_wp2_with fail;refine ap.o.mono ?_;rintro e W1 ⟨s,rfl,aa,H⟩;obtain⟨m,j,rfl⟩:=(gW.own aa).lit;clear ap G;have E:=U.o.1.gD H;have S:=U.o.2.2.1.gD H;obtain⟨G,aO⟩:=E.c2;unfold gX at G;have aL:W1.cell? ⟨N,2,ea⟩=ed (.slice ea 0 0):=by rw[S.cell];rfl
 have aM:W1.frozen? ⟨N,2,ea⟩=false:=S.free 2;have aE:=S.lt;have ax:N≠a:=oM
 have O:=E.jc (a:=⟨N,2,ea⟩) (show a≠N from fun e=>ax e.symm) (hA m (n - k) j);have aU:g<N:=oM
 have aH:=(U.o.2.1.ia H).same (w':=W1.setCell ⟨N,2,ea⟩ (hA m (n - k) j)) fun y d=>eb _ ⟨N,2,ea⟩ _ _ (fun e=>by have f:=oG d;have D:y=N:=e;omega);have aB:gO (fun y=>y=g) (W1.setCell ⟨N,2,ea⟩ (hA m (n - k) j)) (ed ⟨g,0,ea⟩) (xs.take k):=by have:=(zk aH).cut 0 (k * 1);simpa using this
 have aq:=gF (Bj _ ⟨g,0,ea⟩ k c (xs.take k) ar.o.1 aB (fun u ak=>ar.o.2.1 u (ej ak)) oM);have T:Bx (W1.setCell ⟨N,2,ea⟩ (hA m (n - k) j)) N #[hF ez, hA ea 0 0, hA m (n - k) j, gE ha 0] 129:=S.set 2 _;have t: ∀y,(eo m (n - k) j).ownBlock=ed y->N+1<=y/\y<W1.heap.size:=fun y d=>by
  have f:=(gW.own aa).lt y d;have D:(w.alloc (hI #[hF ez, hA ea 0 0, hA ea 0 0, gE ha 0] 129)).heap.size=w.heap.size+1:=oC
  rw[D,Y] at f;exact f
 have J:=(gW.own aa).same (w':=W1.setCell ⟨N,2,ea⟩ (.slice m (n - k) j)) fun y d=>eb _ ⟨N,2,ea⟩ _ _ (fun e=>by have f:=(t y d).1;have D:y=N:=e;omega);have au:gS [a] w W1:=((gS.refl _ w).ic U.o.2.2.2).ic H;have F:gS [a] w (W1.setCell ⟨N,2,ea⟩ (.slice m (n - k) j)):=au.xQ oM;have ao:=gF (gK O (gK T (gK t (gK J F))));clear E S O aH aB T t J au F aa H;go_wp2_with fail;refine aq.o.mono ?_;rintro e z ⟨r,rfl,ab,I⟩;obtain⟨q,p,rfl⟩:=(gW.own ab).lit;obtain⟨O,T,t,J,F⟩:=ao.o;have P:=O.gD I;have aI:=T.gD I;have aF:=J.ia I;have av:=F.ic I;have aD:W1.heap.size=(W1.setCell ⟨N,2,ea⟩ (.slice m (n - k) j)).heap.size:=oC
 have aw:N+1<=(W1.setCell ⟨N,2,ea⟩ (hA m (n - k) j)).heap.size:=by rw[<-aD];exact aE
 have al: ∀y,(eo q k p).ownBlock=ed y->W1.heap.size<=y:=fun y d=>by have f:=((gW.own ab).lt y d).1;omega
 have aG:=gW.own (qL ab aw);have ag:Bx (z.setCell ⟨a,2,ea⟩ (hA q k p)) a (gX ez v2 (hA q k p) page) 129:=P.set 2 _;have ah:=aI.jc (a:=⟨a,2,ea⟩) (show N≠a from ax) (hA q k p);have af:=aG.same (w':=z.setCell ⟨a,2,ea⟩ (hA q k p)) fun y d=>eb _ ⟨a,2,ea⟩ _ _ (fun e=>by have f:=al y d;have D:y=a:=e;omega);have M:=aF.same (w':=z.setCell ⟨a,2,ea⟩ (hA q k p)) fun y d=>eb _ ⟨a,2,ea⟩ _ _ (fun e=>by have f:=(t y d).1;have D:y=a:=e;omega);have V:gS [a] w (z.setCell ⟨a,2,ea⟩ (hA q k p)):=av.set oC;have Z: ∀y,(eo q k p).ownBlock=ed y->(eo m (n - k) j).ownBlock≠ed y:=fun y d aN=>by have f:=al y d;have D:=(t y aN).2;omega
 have aP:z.cell? ⟨a,2,ea⟩=ed (hA (ed ⟨g,0,ea⟩) n c):=by rw[P.cell];rfl
 have aQ:z.frozen? ⟨a,2,ea⟩=false:=P.free 2;have a2:=P.lt;have aJ:=gF (gK ag (gK ah (gK af (gK M (gK Z V)))));clear aq G aO aL aM aE O T t J F P aI aF av aD aw al aG ag ah af M V Z ab I ao;go_wp2;rw[<-aK.o];obtain⟨ag,ah,af,M,Z,V⟩:=aJ.o;rw[show(w.alloc (hI #[hF ez, hA ea 0 0, hA ea 0 0, gE ha 0] 129)).heap.size=w.heap.size+1 by simp,Y] at M;rw[Y];exact⟨rfl,_,_,ag,ah,af,M,Z,V⟩
theorem Kz {l1 l2 M X:List AT} {z:Nat} (p:(AT.iO (l1++(M++l2))).Nodup) (m: ∀y∈AT.iO (l1++(M++l2)),y<z) (t:(AT.iO X).Nodup) (j: ∀y∈AT.iO X,y∈AT.iO M\/z<=y):
  (AT.iO (l1++(X++l2))).Nodup/\ ∀y∈AT.iO (l1++(X++l2)),y∈AT.iO (l1++(M++l2))\/z<=y:=by
 simp only[sO,ei,jD] at p m |-;obtain⟨q,⟨u,r,s⟩,o⟩:=p;refine⟨⟨q,⟨t,r,?_⟩,?_⟩,?_⟩;intro x f y d e;rcases j x f with h|h;exact s x h y d e;have:=m y (.inr (.inr d));omega;intro x f y d e;rcases d with d|d;rcases j y d with h|h;exact o x f y (.inl h) e;have:=m x (.inl f);omega;exact o x f y (.inr d) e;intro y d;rcases d with h|h|h;exact .inl (.inl h);rcases j y h with h|h;exact .inl (.inr (.inl h));exact .inr h;exact .inl (.inr (.inr h))
theorem gW.pQ (h:gW w gM e 1 (hA (ed ⟨g,0,ea⟩) n c) n xs) {i:Nat} (u:ff):
  gW (w.setCell ⟨g,i,ea⟩ u) gM e 1 (hA (ed ⟨g,0,ea⟩) n c) n (xs.set i u):=by
 rcases h.2 with⟨f,_⟩|⟨m,cap,d,f,o,j,r,p,s,t⟩;cases f;obtain⟨rfl,rfl⟩:g=m/\c=cap:=by simpa using f
 have y:=h.1;rw[setCell_eq_setRow w g i d e (0,0) u j];have q:=setRow_heap w g d (d.setIfInBounds i u) e (0,0) j;refine gW.mk' (by rw[eJ];exact y) o q r p (by simpa using s) ?_;rw[Array.toList_setIfInBounds,List.take_set,t]
theorem gW.mono {d:Nat} (h:gW w gM e k v n xs) (q:d<=gM):gW w d e k v n xs:=by
 refine⟨h.1,?_⟩;rcases h.2 with h|⟨g,f,j,m,p,o⟩;exact .inl h;exact .inr ⟨g,f,j,m,oM,o⟩
theorem AT.nj (t:AT):t.fp=t.b::(t.pv.ownBlock.toList++(t.kv.ownBlock.toList++AT.iO t.gC)):=by
 cases t with|mk b pv kv ps gC page=>rw[AT.fp];rfl
theorem KA (a b:AT):ig a.nd.er b.nd.er= .mk (a.ps++b.ps) ((a.gC++b.gC).map fun s=>s.nd.er) 0:=by
 unfold ig;rw[Nd.od,Nd.od,Nd.jN,Nd.jN,AT.jb,AT.jb,AT.gT,AT.gT];simp[Function.comp_def]
theorem mo (b:Nat) (f d:ff) (ps:List Kv) (gC:List AT) (page:Int):(AT.mk b f d ps gC page).nd.er= .mk ps (gC.map fun s=>s.nd.er) 0:=by
 rw[Nd.jJ,AT.jb,AT.gT];simp[AT.ps,AT.gC,Function.comp_def]
theorem KB (gM:Nat) (a b:AT) (w:eO) (r:h9 gM w a) (s:h9 gM w b) (Y:(a.fp++b.fp).Nodup) (z:a.gC.isEmpty=b.gC.isEmpty) (U:a.ps.length<=100/\b.ps.length<=100/\a.gC.length<=100/\b.gC.length<=100) (F:gM<=w.heap.size):
  e1 eD 194 #[a.ptr,b.ptr] w fun e w'=>e= ht (.tuple #[])/\ ∃v1 v2,h9 gM w' (.mk a.b v1 v2 (a.ps++b.ps) (a.gC++b.gC) a.page)/\(AT.mk a.b v1 v2 (a.ps++b.ps) (a.gC++b.gC) a.page).fp.Nodup/\
   (∀y∈(AT.mk a.b v1 v2 (a.ps++b.ps) (a.gC++b.gC) a.page).fp,y∈a.fp++b.fp\/w.heap.size<=y)/\gS [a.b] w w':=by
 obtain⟨af,ag,q⟩:=ei.1 Y;have H:=a.nj;have I:=b.nj;have u: ∀y,y∈a.fp↔y=a.b\/y∈a.pv.ownBlock.toList\/y∈a.kv.ownBlock.toList\/y∈AT.iO a.gC:=fun y=>by rw[H];simp
 have p: ∀y,y∈b.fp↔y=b.b\/y∈b.pv.ownBlock.toList\/y∈b.kv.ownBlock.toList\/y∈AT.iO b.gC:=fun y=>by rw[I];simp
 have m:a.b∈a.fp:=(u _).2 (.inl rfl);have Z:a.b≠b.b:=fun e=>q _ m _ ((p _).2 (.inl rfl)) e;have N:=af;rw[H] at N;obtain⟨⟨aq,ar,ah⟩,⟨ac,ad,ae⟩,aj,ak,al⟩:=pN.1 N;have O:=ag;rw[I] at O;obtain⟨⟨au,av,ai⟩,⟨aw,ax,ay⟩,am,an,ao⟩:=pN.1 O;have t:=r.lt;have V:=s.lt;refine(Ku gM a b w r s Z ?_ U).mono ?_;intro v aa e;have ab:v=a.pv\/v=a.kv\/v=b.pv\/v=b.kv:=by simpa using aa
 rcases ab with rfl|rfl|rfl|rfl;exact ac (by rw[e];simp);exact ad (by rw[e];simp);exact q _ m _ ((p _).2 (.inr (.inl (by rw[e];simp)))) rfl;exact q _ m _ ((p _).2 (.inr (.inr (.inl (by rw[e];simp))))) rfl;rintro e W ⟨rfl,v1,v2,J,M,j,R,hK⟩;have ap:=hK.2.2.2.1;have S:(a.gC++b.gC).isEmpty=a.gC.isEmpty:=by
  cases T:a.gC with
  | nil=>rw[T] at z;simp only[eI,List.isEmpty_nil] at z |-; exact z.symm
  | cons=>rfl
 have o: ∀y∈AT.iO (a.gC++b.gC),(y∈a.fp\/y∈b.fp)/\y<w.heap.size/\y≠a.b:=fun y d=>by rw[sO] at d;rcases jD.1 d with h|h;have f:=(u y).2 (.inr (.inr (.inr h)));exact⟨.inl f,(t y f).2,fun e=>ae (e▸h)⟩;have f:=(p y).2 (.inr (.inr (.inr h)));exact⟨.inr f,(V y f).2,fun e=>q _ m _ f e.symm⟩
 have D:=J.lt;have E:=M.lt;refine⟨rfl,v1,v2, .mk _ _ _ _ _ _ r.hb ?_ ?_ ?_ ?_,?_,?_,hK⟩;rw[S];exact j;rw[iI,sw];exact J.mono F;rw[iI,eQ];exact M.mono F;intro c G;have P:h9 gM w c:=(jD.1 G).elim (r.hc c) (s.hc c);exact P.iE hK fun y d X=>(o y (AT.iK.2 ⟨c,G,d⟩)).2.2 (by simpa using X);.
  rw[AT.fp];refine pN.2 ⟨⟨by cases v1.ownBlock<;>simp,by cases v2.ownBlock<;>simp,?_⟩,⟨?_,?_,?_⟩,?_,?_,?_⟩
  rw[sO];refine ei.2 ⟨ah,ai,fun x j y d e=>?_⟩;exact q x ((u x).2 (.inr (.inr (.inr j)))) y ((p y).2 (.inr (.inr (.inr d)))) e;intro h;have f:=(D a.b (by simpa using h)).1;have:=(t _ m).2;omega;intro h;have f:=(E a.b (by simpa using h)).1;have:=(t _ m).2;omega;exact fun h=>(o _ h).2.2 rfl;intro x j d;exact R x (by simpa using j) (by simpa using d);intro x j d;have f:=(D x (by simpa using j)).1;have:=(o _ d).2.1;omega;intro x j d;have f:=(E x (by simpa using j)).1;have:=(o _ d).2.1;omega
 intro y d;rw[AT.fp] at d;simp only[j4,jD] at d |-;rcases d with h|h|h|h;exact .inl (.inl (h▸m));exact .inr (D y (by simpa using h)).1;exact .inr (E y (by simpa using h)).1;exact .inl (o y h).1
theorem KD (gM:Nat) (a:AT) (w:eO) (H:h9 gM w a) (aw:a.fp.Nodup) (aq:a.gC≠[]->a.ps=[]) (ac:a.ps.length<=1000/\a.gC.length<=1000) (k:Nat) (aN:0<k) (D:(a.gC=[]->k<a.ps.length)/\(a.gC≠[]->k<a.gC.length)) (am:gM<=w.heap.size):
  e1 eD 195 #[a.ptr, gE ha k] w fun e w'=> ∃c r:AT,e= ht r.ptr/\c.b=a.b/\h9 gM w' c/\h9 gM w' r/\(c.fp++r.fp).Nodup/\(∀y∈c.fp++r.fp,y∈a.fp\/w.heap.size<=y)/\gS [a.b] w w'/\jo a.nd.er k=(c.nd.er,r.nd.er):=by
 obtain⟨b,p,o,G,gC,F⟩:=a;simp only[AT.gC,AT.ps] at aq ac D;have f:=H.hx;have ad:=H.hp;have aa:=H.hk;have an:=H.hc;have V:=H.hb;have S:=H.lt;simp only[AT.b,AT.pv,AT.kv,AT.ps,AT.gC,AT.page] at f ad aa an V;have ap:=aw;rw[AT.fp] at ap;obtain⟨⟨aD,aE,aF⟩,⟨ah,ai,aC⟩,aK,al,aL⟩:=pN.1 ap;have q: ∀y,y∈(AT.mk b p o G gC F).fp↔y=b\/y∈p.ownBlock.toList\/y∈o.ownBlock.toList\/y∈AT.iO gC:=fun y=>by rw[AT.fp];simp
 have aM:=(S b ((q b).2 (.inl rfl))).2
 by_cases R:gC=[]
 .
  subst R;have D:=D.1 rfl;refine(Kw gM b p o F G.length (gV G) w f ad (tT _) ac.1 k D fun e=>ah (by rw[e];simp)).mono ?_;rintro e W ⟨rfl,j,m,aj,ak,N,O,X,hK⟩;have s:=N.lt;have t:=O.lt;have ay:=hK.2.2.2.1;have ab: ∀y∈o.ownBlock.toList,y<w.heap.size/\y≠b:=fun y d=>⟨(S y ((q y).2 (.inr (.inr (.inl d))))).2,fun e=>ai (e▸d)⟩;have aB:gW W gM 88 1 o 0 []:=aa.iE hK (fun g Y M=>(ab g (by rw[Y];simp)).2 (by simpa using M));refine⟨.mk b j o (G.take k) [] F, .mk w.heap.size m (hA ea 0 0) (G.drop k) [] 0,rfl,rfl,?_,?_,?_,?_,hK,?_⟩;refine .mk _ _ _ _ _ _ V aj ?_ aB (fun _ h=>by cases h);rw[xL,ee,Nat.min_eq_left oM];exact N.mono oM;refine .mk _ _ _ _ _ _ am ak ?_ ⟨rfl, .inl ⟨rfl,rfl⟩⟩ (fun _ h=>by cases h);rw[xM,ef];exact O.mono oM;.
   have T:(AT.mk b j o (G.take k) [] F).fp=b::(j.ownBlock.toList++(o.ownBlock.toList++AT.iO [])):=by rw[AT.fp]
   have U:(AT.mk w.heap.size m (hA ea 0 0) (G.drop k) [] 0).fp=w.heap.size::m.ownBlock.toList:=by rw[AT.fp];simp[ec,AT.iO]
   rw[T,U];refine ei.2 ⟨pN.2 ⟨⟨by cases j.ownBlock<;>simp,aE,by simp[AT.iO]⟩,⟨fun h=>?_,ai,by simp[AT.iO]⟩,fun x f d=>?_,by simp[AT.iO],by simp[AT.iO]⟩,?_,?_⟩
   have:=(s b (by simpa using h)).1;omega;have:=(s x (by simpa using f)).1;have:=(ab x d).1;omega;.
    refine List.nodup_cons.2 ⟨fun h=>?_,by cases m.ownBlock<;>simp⟩
    have:=(t _ (by simpa using h)).1;omega
   intro x f y d e;subst e;have ag:x=b\/x∈j.ownBlock.toList\/x∈o.ownBlock.toList:=by simpa[AT.iO] using f
   have E:x=w.heap.size\/x∈m.ownBlock.toList:=by simpa using d
   rcases ag with h|h|h;rotate_left;rcases E with g|g;have:=(s x (by simpa using h)).1;omega;exact X x (by simpa using h) (by simpa using g);focus have:=(ab x h).1
   all_goals rcases E with g|g;omega;have:=(t x (by simpa using g)).1;omega
  intro y d;rcases jD.1 d with h|h;rw[AT.fp] at h;have z:y=b\/y∈j.ownBlock.toList\/y∈o.ownBlock.toList:=by simpa[AT.iO] using h
  rcases z with h|h|h;exact .inl ((q y).2 (.inl h));have:=(s y (by simpa using h)).1;exact .inr oM;exact .inl ((q y).2 (.inr (.inr (.inl h))));rw[AT.fp] at h;have z:y=w.heap.size\/y∈m.ownBlock.toList:=by simpa[AT.iO,ec] using h
  rcases z with h|h;exact .inr oM;have:=(t y (by simpa using h)).1;exact .inr oM;unfold jo;rw[mo,mo,mo];rfl
 have av:gC.isEmpty=false:=by cases gC<;>simp_all
 obtain rfl:=aq R;rw[av] at f;have D:=D.2 R;refine(Ky gM b o p F gC.length (gC.map AT.ptr) w f aa (by intro aO ax;obtain⟨c,-,rfl⟩:=et.1 ax;rfl) ac.2 k D fun e=>ai (by rw[e];simp)).mono ?_;rintro e W ⟨rfl,j,m,aj,ak,N,O,X,hK⟩;have s:=N.lt;have t:=O.lt;have ay:=hK.2.2.2.1;have ae: ∀y∈p.ownBlock.toList,y<w.heap.size/\y≠b:=fun y d=>⟨(S y ((q y).2 (.inr (.inl d)))).2,fun e=>ah (e▸d)⟩;have u: ∀y∈AT.iO gC,y<w.heap.size/\y≠b:=fun y d=>⟨(S y ((q y).2 (.inr (.inr (.inr d))))).2,fun e=>aC (e▸d)⟩;have aG:gW W gM 77 2 p 0 []:=ad.iE hK (fun g Y M=>(ae g (by rw[Y];simp)).2 (by simpa using M));have ao: ∀c∈gC,h9 gM W c:=fun c I=>(an c I).iE hK fun y d M=>(u y (AT.iK.2 ⟨c,I,d⟩)).2 (by simpa using M);have af:AT.iO gC=AT.iO (gC.take k)++AT.iO (gC.drop k):=by rw[<-sO,en]
 have P: ∀y∈AT.iO (gC.take k),y∈AT.iO gC:=fun y d=>by rw[af];exact ep _ d
 have J: ∀y∈AT.iO (gC.drop k),y∈AT.iO gC:=fun y d=>by rw[af];exact eh _ d
 have ar:=aF;rw[af] at ar;obtain⟨aH,aI,aJ⟩:=ei.1 ar;have az:(gC.take k).isEmpty=false:=by
  cases Z:gC.take k with
  | nil=>have:=congrArg eL Z;rw[ee,ey] at this;omega
  | cons=>rfl
 have aA:(gC.drop k).isEmpty=false:=by
  cases Z:gC.drop k with
  | nil=>have:=congrArg eL Z;rw[ef,ey] at this;omega
  | cons=>rfl
 refine⟨.mk b p j [] (gC.take k) F, .mk w.heap.size (hA ea 0 0) m [] (gC.drop k) 0,rfl,rfl,?_,?_,?_,?_,hK,?_⟩;refine .mk _ _ _ _ _ _ V (by rw[az];exact aj) aG ?_ fun c I=>ao c (ej I);rw[e2,ee,Nat.min_eq_left oM];exact N.mono oM;refine .mk _ _ _ _ _ _ am (by rw[aA];exact ak) ⟨rfl, .inl ⟨rfl,rfl⟩⟩ ?_ fun c I=>ao c (ek I);rw[e3,ef];exact O.mono oM;.
  have T:(AT.mk b p j [] (gC.take k) F).fp=b::(p.ownBlock.toList++(j.ownBlock.toList++AT.iO (gC.take k))):=by rw[AT.fp]
  have U:(AT.mk w.heap.size (hA ea 0 0) m [] (gC.drop k) 0).fp=w.heap.size::(m.ownBlock.toList++AT.iO (gC.drop k)):=by rw[AT.fp];simp[ec]
  rw[T,U];refine ei.2 ⟨pN.2 ⟨⟨aD,by cases j.ownBlock<;>simp,aH⟩,⟨ah,fun h=>?_,fun h=>(u b (P b h)).2 rfl⟩,fun x f d=>?_,fun x f d=>al x f (P x d),fun x f d=>?_⟩,?_,?_⟩
  have:=(s b (by simpa using h)).1;omega;have:=(s x (by simpa using d)).1;have:=(ae x f).1;omega;have:=(s x (by simpa using f)).1;have:=(u x (P x d)).1;omega;.
   refine List.nodup_cons.2 ⟨fun h=>?_,ei.2 ⟨by cases m.ownBlock<;>simp,aI,fun x f y d e=>?_⟩⟩
   rcases jD.1 h with h|h;have:=(t _ (by simpa using h)).1;omega;have:=(u _ (J _ h)).1;omega;have:=(t x (by simpa using f)).1;have:=(u _ (J _ d)).1;omega
  intro x f y d e;subst e;have ag:x=b\/x∈p.ownBlock.toList\/x∈j.ownBlock.toList\/x∈AT.iO (gC.take k):=by simpa using f
  have E:x=w.heap.size\/x∈m.ownBlock.toList\/x∈AT.iO (gC.drop k):=by simpa using d
  rcases ag with h|h|h|h;rcases E with g|g|g;omega;have:=(t x (by simpa using g)).1;omega;exact(u x (J x g)).2 h;have:=(ae x h).1;rcases E with g|g|g;omega;have:=(t x (by simpa using g)).1;omega;exact al x h (J x g);have au:=(s x (by simpa using h)).1;rcases E with g|g|g;omega;exact X x (by simpa using h) (by simpa using g);have:=(u x (J x g)).1;omega;have au:=(u x (P x h)).1;rcases E with g|g|g;omega;have:=(t x (by simpa using g)).1;omega;exact aJ x h x g rfl
 intro y d;rcases jD.1 d with h|h;rw[AT.fp] at h;have z:y=b\/y∈p.ownBlock.toList\/y∈j.ownBlock.toList\/y∈AT.iO (gC.take k):=by simpa using h
 rcases z with h|h|h|h;exact .inl ((q y).2 (.inl h));exact .inl ((q y).2 (.inr (.inl h)));have:=(s y (by simpa using h)).1;exact .inr oM;exact .inl ((q y).2 (.inr (.inr (.inr (P y h)))));rw[AT.fp] at h;have z:y=w.heap.size\/y∈m.ownBlock.toList\/y∈AT.iO (gC.drop k):=by simpa[ec] using h
 rcases z with h|h|h;exact .inr oM;have:=(t y (by simpa using h)).1;exact .inr oM;exact .inl ((q y).2 (.inr (.inr (.inr (J y h)))));unfold jo;rw[mo,mo,mo];rw[if_neg (by simpa[Nd.gC] using R)];simp[kt,Nd.gC]
open Go.RowKit
variable {a b h i:Nat}{n:Nd}{α:Type}{A B C l:List Kv}{x:Kv}{key:ByteArray}{L:List Nd}
inductive Tm:Nat->Nat->Nat->Nd->Prop
 | lf (a b:Nat) (ps:List Kv) (pg:Int) (h1:a<=ps.length) (h3:ps.length<=3) (hk: ∀p∈ps,k6 p):Tm a b 0 (.mk ps [] pg)
 | mD (a b h:Nat) (gC:List Nd) (pg:Int) (h2:b<=gC.length) (h0:1<=gC.length) (h8:gC.length<=8) (hk: ∀k∈gC,Tm 2 4 h k):Tm a b (h+1) (.mk [] gC pg)
theorem Tm.mono {c d:Nat} (t:Tm a b h n) (s:c<=a) (u:d<=b):Tm c d h n:=by
 cases t with
 | lf _ _ z p q m f=>exact .lf _ _ _ _ oM m f
 | mD _ _ h y p r j o f=>exact .mD _ _ _ _ _ oM j o f
theorem Tm.lT: ∀{n:Nd} {a b h:Nat},Tm a b h n.er↔Tm a b h n:=by
 intro n
 induction n using Nd.ind with
 | h z s y u=>
  intro a b h;rw[Nd.jJ];simp only[Nd.ps,Nd.gC];constructor;.
   intro f;cases h with
   | zero=>
    generalize d:s.map Nd.er=ks at f;cases f with
    | lf _ _ _ _ q r j=>obtain rfl:s=[]:=List.map_eq_nil_iff.1 d;exact .lf _ _ _ _ q r j
   | succ h=>
    generalize d:s.map Nd.er=ks at f;cases f with
    | mD _ _ _ _ _ o m p j=>subst d;rw[eg] at o m p;exact .mD _ _ _ _ _ o m p fun k d=>(u k d).1 (j _ (et.2 ⟨k,d,rfl⟩))
  intro f;cases f with
  | lf _ _ _ _ q r d=>exact .lf _ _ _ _ q r d
  | mD _ _ h _ _ o m p d=>refine .mD _ _ _ _ _ (by rw[eg];exact o) (by rw[eg];exact m) (by rw[eg];exact p) fun k j=>?_;obtain⟨c,t,rfl⟩:=et.1 j;exact(u c t).2 (d c t)
theorem Tm.qN: ∀{n:Nd} {a b h:Nat},1<=a->2<=b->Tm a b h n->kM n:=by
 intro n
 induction n using Nd.ind with
 | h D y z o=>
  intro a b h t u p;cases p with
  | lf _ _ _ _ r j d=>exact .lf _ _ oM j d
  | mD _ _ h _ _ s q m d=>exact .mD _ _ oM m fun k f=>o k f oF oF (d k f)
theorem Tm.leaf (t:Tm a b h n):h=0↔n.gC=[]:=by
 cases t with
 | lf=>simp[Nd.gC]
 | mD _ _ h j m f d=> 
  simp only[Nd.gC];constructor;. intro e;omega
  . intro e;rw[e] at d;simp at d
theorem Tm.px (t:Tm a b 0 n):n.gC=[]/\a<=n.ps.length/\n.ps.length<=3/\ ∀p∈n.ps,k6 p:=by
 cases t with
 | lf _ _ _ _ d f j=>exact⟨rfl,d,f,j⟩
theorem Tm.lK (t:Tm a b (h+1) n):n.ps=[]/\n.gC≠[]/\b<=n.gC.length/\n.gC.length<=8/\ ∀k∈n.gC,Tm 2 4 h k:=by
 cases t with
 | mD _ _ _ _ _ f d j m=>exact⟨rfl,fun e=>by simp only[Nd.gC] at e;rw[e] at d;simp at d,f,j,m⟩
theorem Tm.nk (d:n.gC=[]) (f:a<=n.ps.length) (j:n.ps.length<=3) (m: ∀p∈n.ps,k6 p):Tm a b 0 n:=by
 obtain⟨r,o,q⟩:=n;simp only[Nd.gC,Nd.ps] at *;subst d;exact .lf _ _ _ _ f j m
theorem Tm.lU (o:n.ps=[]) (d:n.gC≠[]) (f:b<=n.gC.length) (j:n.gC.length<=8) (m: ∀k∈n.gC,Tm 2 4 h k):Tm a b (h+1) n:=by
 obtain⟨r,p,q⟩:=n;simp only[Nd.gC,Nd.ps] at *;subst o;exact .mD _ _ _ _ _ f (List.length_pos_iff.2 d) j m
theorem Tm.qO: ∀{a b h:Nat},1<=a->Tm a b h n-> ∃v r,n.iv=(n.ie,v)::r:=by
 induction n using Nd.ind with
 | h q o E m=>
  intro a b h D t;cases t with
  | lf _ _ _ _ j y d=>
   rw[Nd.iJ rfl];cases q with
   | nil=>simp at j;omega
   | cons p r=>exact⟨p.2,r,rfl⟩
  | mD _ _ h _ _ u f z d=>
   cases o with
   | nil=>simp at f
   | cons k r=>obtain⟨v,s,e⟩:=m k oC oF (d k oC);rw[Nd.iu (by simp[Nd.gC])];simp only[Nd.gC,e4,e7];rw[e];exact⟨v,s++(r.map Nd.iv).flatten,rfl⟩
theorem Bv {p:α->Bool} {a b:List α} (h: ∀x∈a,p x=ew):(a++b).takeWhile p=a++b.takeWhile p:=by
 induction a with
 | nil=>rfl
 | cons x a f=>rw[eB,eu,if_pos (h x oC),f fun j d=>h j (by simp[d]),eB]
theorem Bw {p:α->Bool} {a b:List α} (h: ∀x∈a,p x=ew):(a++b).dropWhile p=b.dropWhile p:=by
 induction a with
 | nil=>rfl
 | cons x a f=>rw[eB,eF,if_pos (h x oC),f fun j d=>h j (by simp[d])]
theorem KE {p:α->Bool} {b:List α} (h: ∀x∈b,p x=ez):b.takeWhile p=[]:=by
 cases b with
 | nil=>rfl
 | cons x b=>rw[eu,if_neg (by rw[h x oC];decide)]
theorem KF {p:α->Bool} {b:List α} (h: ∀x∈b,p x=ez):b.dropWhile p=b:=by
 cases b with
 | nil=>rfl
 | cons x b=>rw[eF,if_neg (by rw[h x oC];decide)]
theorem KG {p:α->Bool} {a b:List α} (h: ∀x∈b,p x=ez):(a++b).takeWhile p=a.takeWhile p:=by
 induction a with
 | nil=>rw[eI,KE h];rfl
 | cons x a d=>rw[eB,eu,eu,d]
theorem EH {p:α->Bool} {a b:List α} (h: ∀x∈b,p x=ez):(a++b).dropWhile p=a.dropWhile p++b:=by
 induction a with
 | nil=>rw[eI,KF h];rfl
 | cons x a d=>rw[eB,eF,eF,d];split<;>rfl
theorem xS {p:α->Bool} {l:List α} {x:α} (h:x∈l.takeWhile p):p x=true:=by
 induction l with
 | nil=>cases h
 | cons j l f=>rw[eu] at h;split at h;rename_i d;rcases j4.1 h with rfl|h;exact d;exact f h;cases h
theorem EI {p:α->Bool} {l:List α} (h:(l.takeWhile p).length<l.length):p (l[(l.takeWhile p).length]'h)=false:=by
 induction l with
 | nil=>simp at h
 | cons d l j=>
  by_cases f:p d=ew
  have e:(d::l).takeWhile p=d::l.takeWhile p:=by rw[eu,if_pos f]
  simp only[e,j1,List.getElem_cons_succ] at h |-;exact j oM;have e:(d::l).takeWhile p=[]:=by rw[eu,if_neg f]
  simp only[e,ey,List.getElem_cons_zero];simpa using f
theorem KH (j: ∀p∈A,iB p.1 x.1=ew) (m: ∀p∈C,iB x.1 p.1=ew):iN (A++(B++C)) x=A++(iN B x++C):=by
 unfold iN;have f: ∀p∈C,iB p.1 x.1=false:=fun p d=>wN (m p d);have o: ∀p∈C,decide (p.1=x.1)=false:=fun p d=>by simpa using fun e:p.1=x.1=>q9 (m p d) e.symm
 rw[Bv j,Bw j,KG f,EH f,EH o];simp
theorem KI (m: ∀p∈A,iB p.1 key=ew) (o: ∀p∈C,iB key p.1=ew):l6 (A++(B++C)) key=A++(l6 B key++C):=by
 unfold l6;have f:A.filter (fun p=>decide (p.1≠key))=A:=e0.2 fun p d=>by simpa using q9 (m p d)
 have j:C.filter (fun p=>decide (p.1≠key))=C:=e0.2 fun p d=>by simpa using fun e:p.1=key=>q9 (o p d) e.symm
 rw[fk,fk,f,j]
theorem Bz {gC:List Nd} (R: ∀k∈gC,Tm 2 4 h k) (D:jZ (gC.map Nd.iv).flatten) (q:ly gC key=i) (F:i<gC.length):
  (∀p∈((gC.take i).map Nd.iv).flatten,iB p.1 key=ew)/\(∀p∈((gC.drop (i+1)).map Nd.iv).flatten,iB key p.1=ew):=by
 have G: ∀(d:Nat) (j:d<gC.length),∃v r,gC[d].iv=(gC[d].ie,v)::r:=fun d j=>(R _ (eN j)).qO oF;have M:(gC.map Nd.iv).Pairwise fun a b=> ∀x∈a,∀z∈b,iB x.1 z.1=true:=(List.pairwise_flatten.1 D).2;rw[List.pairwise_map] at M;have I: ∀(d f:Nat) (j:d<gC.length) (H:f<gC.length),d<f-> ∀x∈gC[d].iv,∀z∈gC[f].iv,iB x.1 z.1=true:=fun d f j H P=>List.pairwise_iff_getElem.1 M d f j H P;unfold ly at q;constructor;intro p y;obtain⟨l,t,o⟩:=List.mem_flatten.1 y;obtain⟨k,s,rfl⟩:=et.1 t;obtain⟨d,j,rfl⟩:=eE.1 s;rw[ee] at j;rw[e6] at o;obtain⟨f,rfl⟩: ∃f,i=f+1:=⟨i - 1,oM⟩;have S:gC[f+1]∈gC.tail.takeWhile fun k=> !iB key k.ie:=by
  have N:gC.tail.takeWhile (fun k=> !iB key k.ie)=gC.tail.take (f+1):=by have:=List.prefix_iff_eq_take.1 (eX (fun k:Nd=> !iB key k.ie) (l:=gC.tail));rw[q] at this;exact this
  rw[N];refine eE.2 ⟨f,by rw[ee,List.length_tail];omega,?_⟩;rw[e6,fo]
 have m:=xS S;simp only[Bool.not_eq_true'] at m;obtain⟨v,r,e⟩:=G (f+1) F;exact Dw (I d (f+1) oM F oM p o (gC[f+1].ie,v) (by rw[e];simp)) m;intro p y;obtain⟨l,t,o⟩:=List.mem_flatten.1 y;obtain⟨k,s,rfl⟩:=et.1 t;obtain⟨d,j,rfl⟩:=eE.1 s;rw[ef] at j;rw[fq] at o;have u:i+1<gC.length:=oM
 have m:iB key gC[i+1].ie=true:=by have:=EI (p:=fun k:Nd=> !iB key k.ie) (l:=gC.tail) (by rw[q,List.length_tail];omega);simp only[q,fo,Bool.not_eq_false'] at this;exact this
 obtain⟨v,r,e⟩:=G (i+1) u
 by_cases O:d=0
 subst O;have J:p∈gC[i+1].iv:=o;rw[e] at J;rcases j4.1 J with rfl|T;exact m;have E:jZ gC[i+1].iv:=D.sub (eT (et.2 ⟨_,eN u,rfl⟩));rw[e] at E;exact r6 m ((eK.1 E).1 p T);exact r6 m (I (i+1) (i+1+d) u oM oM (gC[i+1].ie,v) (by rw[e];simp) p o)
theorem EJ (h:jZ l) (key:ByteArray): ∀p∈l.dropWhile fun p=>iB p.1 key,iB p.1 key=false:=by
 induction l with
 | nil=>intro p d;cases d
 | cons r l q=>
  obtain⟨j,m⟩:=eK.1 h;intro p d;rw[eF] at d;split at d;exact q m p d;rename_i f;rcases j4.1 d with rfl|d;simpa using f;cases o:iB p.1 key with
  | false=>rfl
  | true=>exact absurd (r6 (j p d) o) f
theorem EK (h:jZ l) (key:ByteArray) (f: ∀p∈l,iB p.1 key=ez): ∀p∈l.dropWhile fun p=>decide (p.1=key),iB key p.1=true:=by
 cases l with
 | nil=>intro p d;cases d
 | cons r l=>
  obtain⟨m,s⟩:=eK.1 h;have j: ∀p∈l,iB key p.1=true:=fun p d=>AK (f r oC) (m p d);intro p d;rw[eF] at d;split at d;exact j p ((eC _).subset d);rename_i q;rcases j4.1 d with rfl|d;.
   cases o:iB key p.1 with
   | true=>rfl
   | false=>exact absurd (tC o (f p oC)).symm (by simpa using q)
  exact j p d
theorem KJ (h:jZ l) (x:Kv):jZ (iN l x):=by
 unfold iN;have m:jZ (l.dropWhile fun p=>iB p.1 x.1):=h.sub (eC _).sublist;have q:jZ ((l.dropWhile fun p=>iB p.1 x.1).dropWhile fun p=>decide (p.1=x.1)):=m.sub (eC _).sublist;have f:=EK m x.1 (EJ h x.1);refine jZ.app.2 ⟨h.sub (eX _).sublist,eK.2 ⟨f,q⟩,fun a o b d=>?_⟩;have j:iB a.1 x.1=true:=xS (p:=fun p:Kv=>iB p.1 x.1) o;rcases j4.1 d with rfl|d;exact j;exact r6 j (f b d)
theorem KL (h:jZ l) (x p:Kv):p∈iN l x↔p=x\/(p∈l/\p.1≠x.1):=by
 have s:jZ (l.dropWhile fun p=>iB p.1 x.1):=h.sub (eC _).sublist;have r:=EK s x.1 (EJ h x.1);have t: ∀f∈l,f∈l.takeWhile (fun p=>iB p.1 x.1)\/f∈l.dropWhile (fun p=>iB p.1 x.1):=fun f j=>by rw[<-e8 (p:=fun p=>iB p.1 x.1) (l:=l)] at j;exact jD.1 j
 have u: ∀f∈l.dropWhile fun p=>iB p.1 x.1,f∈(l.dropWhile fun p=>iB p.1 x.1).takeWhile (fun p=>decide (p.1=x.1))\/f∈(l.dropWhile fun p=>iB p.1 x.1).dropWhile (fun p=>decide (p.1=x.1)):=fun f j=>by rw[<-e8 (p:=fun p=>decide (p.1=x.1)) (l:=l.dropWhile fun p=>iB p.1 x.1)] at j;exact jD.1 j
 unfold iN;rw[jD,j4];constructor;rintro (d|d|d);exact .inr ⟨(eX _).subset d,q9 (xS (p:=fun p:Kv=>iB p.1 x.1) d)⟩;exact .inl d;exact .inr ⟨(eC _).subset ((eC _).subset d),fun e=>q9 (r p d) e.symm⟩;rintro (d|⟨d,q⟩);exact .inr (.inl d);rcases t p d with m|m;exact .inl m;rcases u p m with o|o;exact absurd (by simpa using xS o) q;exact .inr (.inr o)
theorem EL (h:jZ l) (x:Kv):l.length<=(iN l x).length/\(iN l x).length<=l.length+1/\1<=(iN l x).length:=by
 rw[Ez x h];have f:=ze l x.1;split;rename_i d;have:jM l x.1<l.length:=by unfold jR at d;rcases Nat.lt_or_ge (jM l x.1) l.length with h|h;exact h;rw[fi oM] at d;simp at d
 rw[eJ];omega
 simp;omega
theorem KN (h:jZ l) (key:ByteArray):jZ (l6 l key):=h.sub List.filter_sublist
theorem EM (h:jZ l) (key:ByteArray):l.length<=(l6 l key).length+1/\(l6 l key).length<=l.length:=by
 rw[EF key h];have d:=ze l key;split
 simp;omega
 omega
theorem sQ (f:Nd->List α) (l1 l2 X:List Nd):((l1++X++l2).map f).flatten=(l1.map f).flatten++((X.map f).flatten++(l2.map f).flatten):=by
 simp
theorem zl {l:List Nd} (h:i<l.length):(l.map Nd.iv).flatten=((l.take i).map Nd.iv).flatten++(l[i].iv++((l.drop (i+1)).map Nd.iv).flatten):=by
 have e:l=l.take i++[l[i]]++l.drop (i+1):=by rw[eU,List.singleton_append,List.getElem_cons_drop,en]
 conv=>lhs;rw[e]
 rw[sQ];simp
theorem wb (d:L≠[]):(kt L).iv=(L.map Nd.iv).flatten:=Nd.iu d
theorem wh (l:List Kv):(kR l).iv=l:=Nd.iJ rfl
theorem EN (j: ∀k∈L,Tm 2 4 h k) (f:L≠[]) (r:b<=L.length) (s:L.length<=9):
  ((jA (kt L)).2=ea->Tm a b (h+1) (jA (kt L)).1/\(jA (kt L)).1.iv=(L.map Nd.iv).flatten)/\
  ∀c,(jA (kt L)).2=ed c->Tm 2 4 (h+1) (jA (kt L)).1/\Tm 2 4 (h+1) c/\(jA (kt L)).1.iv++c.iv=(L.map Nd.iv).flatten:=by
 by_cases o:L.length<=8
 rw[wZ f o];refine⟨fun _=>⟨.lU rfl f r o j,wb f⟩,fun c d=>by cases d⟩;have t:L.length=9:=oM
 rw[zj f oM];refine⟨fun d=>(by cases d),fun c d=>?_⟩;cases d;have p:L.take 5≠[]:=fun e=>by have:=congrArg eL e;rw[ee,ey] at this;omega
 have q:L.drop 5≠[]:=fun e=>by have:=congrArg eL e;rw[ef,ey] at this;omega
 refine⟨.lU rfl p (by show 4<=(L.take 5).length;rw[ee];omega) (by show(L.take 5).length<=8;rw[ee];omega) fun k m=>j k (ej m), .lU rfl q (by show 4<=(L.drop 5).length;rw[ef];omega) (by show(L.drop 5).length<=8;rw[ef];omega) fun k m=>j k (ek m),?_⟩;simp only;rw[wb p,wb q, <-eZ, <-eQ,en]
theorem KO (aa:k6 x): ∀{n:Nd} {a b h:Nat},a<=2->b<=4->1<=b->Tm a b h n->jZ n.iv->
  ((jB x n).2=ea->Tm a b h (jB x n).1/\(jB x n).1.iv=iN n.iv x)/\
  ∀c,(jB x n).2=ed c->Tm 2 4 h (jB x n).1/\Tm 2 4 h c/\(jB x n).1.iv++c.iv=iN n.iv x:=by
 intro n
 induction n using Nd.ind with
 | h ps gC s ad=>
  intro a b h af ag ah t m
  by_cases j:gC=[]
  .
   obtain rfl:h=0:=t.leaf.2 j;obtain⟨-,O,R,f⟩:=t.px;rw[vZ (n:= .mk ps gC s) j];have Z:(Nd.mk ps gC s).iv=ps:=Nd.iJ j;simp only[Nd.ps] at O R f |-;rw[Z] at m |-;obtain⟨ai,aj,ak⟩:=EL m x;have z: ∀p∈iN ps x,k6 p:=fun p q=>by rcases (KL m x p).1 q with rfl|⟨h,-⟩;exact aa;exact f p h
   by_cases I:(iN ps x).length<=3
   rw[wa I];exact⟨fun _=>⟨.nk rfl (by show a<=(iN ps x).length;omega) I z,wh _⟩,fun c o=>by cases o⟩;rw[xK oM];refine⟨fun o=>(by cases o),fun c o=>?_⟩;cases o;refine⟨.nk rfl (by show 2<=((iN ps x).take 2).length;rw[ee];omega) (by show((iN ps x).take 2).length<=3;rw[ee];omega) fun p q=>z p (ej q), .nk rfl (by show 2<=((iN ps x).drop 2).length;rw[ef];omega) (by show((iN ps x).drop 2).length<=3;rw[ef];omega) fun p q=>z p (ek q),?_⟩;simp only;rw[wh,wh,en]
  obtain⟨h,rfl⟩: ∃H,h=H+1:=by
   cases h with
   | zero=>exact absurd (t.leaf.1 rfl) j
   | succ H=>exact⟨H,rfl⟩
  obtain⟨-,-,P,S,f⟩:=t.lK;simp only[Nd.gC] at P S f;have Y:(Nd.mk ps gC s).iv=(gC.map Nd.iv).flatten:=Nd.iu j;rw[Y] at m |-;rw[xJ (n:= .mk ps gC s) j];simp only[Nd.gC];have r:=p7 x.1 j;obtain⟨i,M⟩:=nM (ly gC x.1);simp only[M] at r |-;obtain⟨T,U⟩:=Bz f m M r;have u:gC[i]∈gC:=eN r;have V:jZ gC[i].iv:=m.sub (eT (et.2 ⟨_,u,rfl⟩));obtain⟨ab,ac⟩:=ad _ u (eA _) (eA _) oF (f _ u) V;have E:=KH (B:=gC[i].iv) T U;rw[<-zl r] at E;cases N:(jB x gC[i]).2
  case' none=>
   obtain⟨F,G⟩:=ab N;simp only[Option.toList_none,eU,eB,eI];have X:(gC.take i++(jB x gC[i]).1::gC.drop (i+1)).length=gC.length:=oN
   have D:=EN (L:=gC.take i++(jB x gC[i]).1::gC.drop (i+1)) (a:=a) (b:=b) (h:=h) (fun k y=>by rcases jD.1 y with d|d;exact f k (ej d);rcases j4.1 d with rfl|d;exact F;exact f k (ek d)) oC oM oM
   have J:((gC.take i++(jB x gC[i]).1::gC.drop (i+1)).map Nd.iv).flatten=iN (gC.map Nd.iv).flatten x:=by rw[E, <-G];simp
  rotate_left
  case' some c=>
   obtain⟨F,G,ae⟩:=ac c N;simp only[Option.toList_some,eU,eB,eI];have X:(gC.take i++(jB x gC[i]).1::c::gC.drop (i+1)).length=gC.length+1:=oN
   have D:=EN (L:=gC.take i++(jB x gC[i]).1::c::gC.drop (i+1)) (a:=a) (b:=b) (h:=h) (fun k y=>by rcases jD.1 y with d|d;exact f k (ej d);rcases j4.1 d with rfl|d;exact F;rcases j4.1 d with rfl|d;exact G;exact f k (ek d)) oC oM oM
   have J:((gC.take i++(jB x gC[i]).1::c::gC.drop (i+1)).map Nd.iv).flatten=iN (gC.map Nd.iv).flatten x:=by rw[E, <-ae];simp
  all_goals rw[J] at D;exact D
theorem KP {a b:Nd} {left:Bool} (P:Tm (if left then 2 else 1) (if left then 4 else 3) h a) (R:Tm (if left then 1 else 2) (if left then 3 else 4) h b) (d:(if left then b else a).iX=ew):
  (∀k∈lu a b left,Tm 2 4 h k)/\((lu a b left).map Nd.iv).flatten=a.iv++b.iv/\1<=(lu a b left).length/\(lu a b left).length<=2:=by
 cases h
 case' zero=>
  obtain⟨j,y,Y,G⟩:=P.px;obtain⟨o,z,Z,H⟩:=R.px;have m:(ig a b).gC=[]:=by unfold ig;simp[Nd.gC];exact⟨j,o⟩
  have u:(ig a b).ps=a.ps++b.ps:=rfl;have M:=Nd.iJ j;have N:=Nd.iJ o;have T:(ig a b).iv=a.ps++b.ps:=Nd.iJ m;have t: ∀p∈a.ps++b.ps,k6 p:=fun p f=>(jD.1 f).elim (G p) (H p);have F: ∀k,2<=k->k<=3->2<=(a.ps++b.ps).length - k->(a.ps++b.ps).length - k<=3->(∀n∈[(jo (ig a b) k).1,(jo (ig a b) k).2],Tm 2 4 0 n)/\(([(jo (ig a b) k).1,(jo (ig a b) k).2]).map Nd.iv).flatten=a.ps++b.ps:=by
   intro k D E aa ab;unfold jo;rw[if_pos m,u];refine⟨fun n J=>?_,?_⟩;have:n=kR ((a.ps++b.ps).take k)\/n=kR ((a.ps++b.ps).drop k):=by simpa using J
   rcases this with rfl|rfl;exact .nk rfl (by show 2<=((a.ps++b.ps).take k).length;rw[ee];omega) (by show((a.ps++b.ps).take k).length<=3;rw[ee];omega) fun p f=>t p (ej f);exact .nk rfl (by show 2<=((a.ps++b.ps).drop k).length;rw[ef];omega) (by show((a.ps++b.ps).drop k).length<=3;rw[ef];omega) fun p f=>t p (ek f);simp only[e4,List.map_nil,e7,List.flatten_nil,e9];rw[wh,wh,en]
  have S:(a.ps++b.ps).length<=3->2<=(a.ps++b.ps).length->Tm 2 4 0 (ig a b):=fun D E=> .nk m (by rw[u];exact E) (by rw[u];exact D) (by rw[u];exact t);have ae:a.size=a.ps.length:=by unfold Nd.size;rw[j];rfl
  have ag:b.size=b.ps.length:=by unfold Nd.size;rw[o];rfl
  rw[M,N];cases left
  case' true=>
   have O:b.ps.length<2:=by simp only[if_true] at d;unfold Nd.iX at d;rw[if_pos o] at d;simpa using d
   simp only[if_true] at y z;unfold lu Nd.jO;rw[if_pos rfl,if_pos j]
   by_cases q:2<a.ps.length
   simp only[q,decide_true,if_true];obtain⟨r,s⟩:=F (a.size - 1) oM oM (by rw[iI];omega) (by rw[iI];omega);exact⟨r,s,oC,oC⟩
  rotate_left
  case' false=>
   have O:a.ps.length<2:=by simp only[ev,if_false] at d;unfold Nd.iX at d;rw[if_pos j] at d;simpa using d
   simp only[ev,if_false] at y z;unfold lu Nd.jO;rw[if_neg oF,if_pos o]
   by_cases q:2<b.ps.length
   simp only[q,decide_true,if_true];obtain⟨r,s⟩:=F (a.size+1) oM oM (by rw[iI];omega) (by rw[iI];omega);exact⟨r,s,oC,oC⟩
 rotate_left 2
 case' succ h=>
  obtain⟨X,j,y,Y,G⟩:=P.lK;obtain⟨af,o,z,Z,H⟩:=R.lK;have m:(ig a b).gC=a.gC++b.gC:=rfl;have I:(ig a b).gC≠[]:=by rw[m];simp[j]
  have u:(ig a b).ps=[]:=by show a.ps++b.ps=[];rw[X,af];rfl
  have M:=Nd.iu j;have N:=Nd.iu o;have T:(ig a b).iv=((a.gC++b.gC).map Nd.iv).flatten:=Nd.iu I;have t: ∀k∈a.gC++b.gC,Tm 2 4 h k:=fun p f=>(jD.1 f).elim (G p) (H p);have F: ∀k,4<=k->k<=8->4<=(a.gC++b.gC).length - k->(a.gC++b.gC).length - k<=8->(∀n∈[(jo (ig a b) k).1,(jo (ig a b) k).2],Tm 2 4 (h+1) n)/\(([(jo (ig a b) k).1,(jo (ig a b) k).2]).map Nd.iv).flatten=((a.gC++b.gC).map Nd.iv).flatten:=by
   intro k D E aa ab;unfold jo;rw[if_neg I,m];have U:(a.gC++b.gC).take k≠[]:=fun e=>by have:=congrArg eL e;rw[ee] at this;simp only[ey] at this;omega
   have V:(a.gC++b.gC).drop k≠[]:=fun e=>by have:=congrArg eL e;rw[ef] at this;simp only[ey] at this;omega
   refine⟨fun n J=>?_,?_⟩;have:n=kt ((a.gC++b.gC).take k)\/n=kt ((a.gC++b.gC).drop k):=by simpa using J
   rcases this with rfl|rfl;exact .lU rfl U (by show 4<=((a.gC++b.gC).take k).length;rw[ee];omega) (by show((a.gC++b.gC).take k).length<=8;rw[ee];omega) fun p f=>t p (ej f);exact .lU rfl V (by show 4<=((a.gC++b.gC).drop k).length;rw[ef];omega) (by show((a.gC++b.gC).drop k).length<=8;rw[ef];omega) fun p f=>t p (ek f);simp only[e4,List.map_nil,e7,List.flatten_nil,e9];rw[wb U,wb V, <-eZ, <-eQ,en]
  have S:(a.gC++b.gC).length<=8->4<=(a.gC++b.gC).length->Tm 2 4 (h+1) (ig a b):=fun D E=> .lU u I (by rw[m];exact E) (by rw[m];exact D) (by rw[m];exact t);have ae:a.size=a.gC.length:=by unfold Nd.size;rw[X];simp
  have ac:((a.gC++b.gC).map Nd.iv).flatten=a.iv++b.iv:=by rw[M,N,eQ,eZ]
  rw[<-ac];cases left
  case' true=>
   have O:b.gC.length<4:=by simp only[if_true] at d;unfold Nd.iX at d;rw[if_neg o] at d;simpa using d
   simp only[if_true] at y z;unfold lu Nd.jO;rw[if_pos rfl,if_neg j]
   by_cases q:4<a.gC.length
   simp only[q,decide_true,if_true];obtain⟨r,s⟩:=F (a.size - 1) oM oM (by rw[iI];omega) (by rw[iI];omega);exact⟨r,s,oC,oC⟩
  rotate_left
  case' false=>
   have O:a.gC.length<4:=by simp only[ev,if_false] at d;unfold Nd.iX at d;rw[if_neg j] at d;simpa using d
   simp only[ev,if_false] at y z;unfold lu Nd.jO;rw[if_neg oF,if_neg o]
   by_cases q:4<b.gC.length
   simp only[q,decide_true,if_true];obtain⟨r,s⟩:=F (a.size+1) oM oM (by rw[iI];omega) (by rw[iI];omega);exact⟨r,s,oC,oC⟩
 all_goals
  simp only[q,decide_false,ev,if_false];refine⟨fun k ad=>?_,?_,oC,oC⟩;have:k=ig a b:=by simpa using ad
  rw[this];exact S (by rw[iI];omega) (by rw[iI];omega);simp[T]
theorem Tm.r9 (t:Tm 1 3 h n) (d:n.iX=ez):Tm 2 4 h n:=by
 unfold Nd.iX at d;cases h with
 | zero=>obtain⟨o,p,f,j⟩:=t.px;rw[if_pos o] at d;exact .nk o (by simpa using d) f j
 | succ h=>obtain⟨q,m,p,f,j⟩:=t.lK;rw[if_neg m] at d;exact .lU q m (by simpa using d) f j
theorem xc (h:n.gC≠[]):ji key n=kt (kK (n.gC.set (ly n.gC key) (ji key (n.gC[ly n.gC key]'(p7 _ h)))) (ly n.gC key)):=by
 rw[ji,if_neg h];split;rename_i d;have:=p7 key h;rw[List.getElem?_eq_none_iff] at d;omega;rename_i c d;obtain⟨f,rfl⟩:=List.getElem?_eq_some_iff.1 d;rfl
theorem zm {l:List Nd} (d:i<l.length) (j:2<=l.length) (f:l[i].iX=ew):
  kK l i=l.take (i - 1)++lu (l[i - 1]' oM) (l[i - 1+1]' oM) (decide (0<i))++l.drop (i - 1+2):=by
 unfold kK;rw[eH d];simp only[f,Bool.true_eq_false,if_false];rw[eH (show i - 1<l.length by omega),eH (show i - 1+1<l.length by omega)]
theorem BA {l:List Nd} (d:i<l.length) (f:l[i].iX=ez):kK l i=l:=by
 unfold kK;rw[eH d];simp only[f,if_true]
theorem KQ {l:List Nd} {j:Nat} (h:j+1<l.length):(l.map Nd.iv).flatten=((l.take j).map Nd.iv).flatten++((l[j].iv++l[j+1].iv)++((l.drop (j+2)).map Nd.iv).flatten):=by
 have e:l=l.take j++[l[j],l[j+1]]++l.drop (j+2):=by
  rw[eU];have d:[l[j],l[j+1]]++l.drop (j+2)=l.drop j:=by rw[fb (show j<l.length by omega),fb h];rfl
  rw[d,en]
 conv=>lhs;rw[e]
 rw[sQ];simp
theorem KR {l:List Nd} (t:i<l.length) (q:2<=l.length) (y:l.length<=8) (o: ∀(j:Nat) (f:j<l.length),j≠i->Tm 2 4 h l[j]) (r:Tm 1 3 h l[i]):
  (∀k∈kK l i,Tm 2 4 h k)/\((kK l i).map Nd.iv).flatten=(l.map Nd.iv).flatten/\l.length<=(kK l i).length+1/\(kK l i).length<=8/\kK l i≠[]:=by
 cases p:l[i].iX with
 | false=>
  rw[BA t p];refine⟨fun k s=>?_,rfl,oM,y,fun e=>by rw[e] at q;simp at q⟩;obtain⟨j,f,rfl⟩:=eE.1 s
  by_cases u:j=i
  subst u;exact r.r9 p;exact o j f u
 | true=>
  rw[zm t q p,KQ (show i - 1+1<l.length by omega)];have F:i - 1<l.length:=oM
  have G:i - 1+1<l.length:=oM
  have z:Tm (if decide (0<i) then 2 else 1) (if decide (0<i) then 4 else 3) h l[i - 1]:=by
   by_cases m:0<i
   simp only[m,decide_true,if_true];exact o _ F oM;obtain rfl:i=0:=oM
   exact r
  have D:Tm (if decide (0<i) then 1 else 2) (if decide (0<i) then 3 else 4) h l[i - 1+1]:=by
   by_cases m:0<i
   simp only[m,decide_true,if_true];have e:i - 1+1=i:=oM
   simp only[e];exact r;obtain rfl:i=0:=oM
   exact o _ G oM
  have E:(if decide (0<i) then l[i - 1+1] else l[i - 1]).iX=true:=by
   by_cases m:0<i
   simp only[m,decide_true,if_true];have e:i - 1+1=i:=oM
   simp only[e];exact p;obtain rfl:i=0:=oM
   exact p
  obtain⟨H,I,J,M⟩:=KP z D E;refine⟨fun k s=>?_,?_,?_,?_,?_⟩;rcases jD.1 s with d|d;rcases jD.1 d with d|d;obtain⟨j,f,rfl⟩:=eE.1 d;rw[ee] at f;rw[e6];exact o j oM oM;exact H k d;obtain⟨j,f,rfl⟩:=eE.1 d;rw[ef] at f;rw[fq];exact o _ oM oM;rw[sQ,I];rotate_left;rotate_left;intro e;have:=congrArg eL e;simp only[iI,ey] at this;omega;all_goals simp only[iI,ee,ef];omega
theorem xT: ∀{n:Nd} {a b h:Nat},a<=2->b<=4->2<=b->Tm a b h n->jZ n.iv->Tm (a - 1) (b - 1) h (ji key n)/\(ji key n).iv=l6 n.iv key:=by
 intro n
 induction n using Nd.ind with
 | h ps gC o R=>
  intro a b h Y Z aa p j
  by_cases f:gC=[]
  obtain rfl:h=0:=p.leaf.2 f;obtain⟨-,z,E,d⟩:=p.px;rw[Bu (n:= .mk ps gC o) f];have N:(Nd.mk ps gC o).iv=ps:=Nd.iJ f;simp only[Nd.ps] at z E d |-;rw[N] at j |-;obtain⟨ae,af⟩:=EM j key;exact⟨.nk rfl (by show a - 1<=(l6 ps key).length;omega) (by show(l6 ps key).length<=3;omega) fun X J=>d X (List.mem_filter.1 J).1,wh _⟩;obtain⟨h,rfl⟩: ∃r,h=r+1:=by
   cases h with
   | zero=>exact absurd (p.leaf.1 rfl) f
   | succ r=>exact⟨r,rfl⟩
  obtain⟨-,-,D,F,d⟩:=p.lK;simp only[Nd.gC] at D F d;have M:(Nd.mk ps gC o).iv=(gC.map Nd.iv).flatten:=Nd.iu f;rw[M] at j |-;rw[xc (n:= .mk ps gC o) f];simp only[Nd.gC];have m:=p7 key f;obtain⟨i,s⟩:=nM (ly gC key);simp only[s] at m |-;obtain⟨G,H⟩:=Bz d j s m;have q:gC[i]∈gC:=eN m;have I:jZ gC[i].iv:=j.sub (eT (et.2 ⟨_,q,rfl⟩));obtain⟨O,P⟩:=R _ q (eA _) (eA _) oF (d _ q) I;have u:=KI (B:=gC[i].iv) G H;rw[<-zl m] at u;have t:i<(gC.set i (ji key gC[i])).length:=by rw[eJ];exact m
  obtain⟨S,T,U,V,y⟩:=KR (l:=gC.set i (ji key gC[i])) (h:=h) (i:=i) t (by rw[eJ];omega) (by rw[eJ];omega) (fun ad ab ac=>by rw[List.getElem_set_ne oM];exact d _ (eN _)) (by rw[fh];exact O);refine⟨.lU rfl y (by rw[eJ] at U;show b - 1<=_;simp only[kt,Nd.gC];omega) V S,?_⟩;rw[wb y,T,zl t,fh,List.take_set_of_le (eA _),List.drop_set_of_lt (Nat.lt_succ_self _),P,u]
theorem KT (t:Tm 1 2 h n) (D:jZ n.iv):
  (jx (ed n) key=ea/\l6 n.iv key=[])\/ ∃m y,jx (ed n) key=ed m/\Tm 1 2 y m/\m.iv=l6 n.iv key:=by
 obtain⟨u,p⟩:=xT (key:=key) oF oF oF t D;unfold jx;cases h with
 | zero=>
  obtain⟨j,z,q,o⟩:=u.px;simp only[j];have r:(ji key n).size=(ji key n).ps.length:=by unfold Nd.size;rw[j];rfl
  have F:=Nd.iJ j
  by_cases f:(ji key n).size=0
  rw[if_pos f];refine .inl ⟨rfl,?_⟩;rw[<-p,F];exact List.eq_nil_of_length_eq_zero oM;rw[if_neg f];exact .inr ⟨_,0,rfl, .nk j oM q o,p⟩
 | succ h=>
  obtain⟨E,f,z,q,o⟩:=u.lK;cases d:(ji key n).gC with
  | nil=>exact absurd d f
  | cons c s=>
   cases s with
   | nil=>refine .inr ⟨c,h,by simp only[d],(o c (by rw[d];simp)).mono oF oF,?_⟩;rw[<-p,Nd.iu f,d];simp
   | cons G s=>
    have r: ¬(ji key n).size=0:=by unfold Nd.size;rw[d];simp
    simp only[d,if_neg r];exact .inr ⟨_,h+1,rfl, .lU E f (by rw[d];simp) q o,p⟩
theorem KU (o:k6 x) (t:Tm 1 2 h n) (j:jZ n.iv): ∃f,Tm 1 2 f (ku (ed n) x)/\(ku (ed n) x).iv=iN n.iv x:=by
 obtain⟨p,q⟩:=KO o oF oF oF t j;cases d:(jB x n).2 with
 | none=>rw[Br d];exact⟨h,p d⟩
 | some c=>
  obtain⟨r,s,u⟩:=q c d;rw[Bt d];refine⟨h+1, .lU rfl (by simp[kt,Nd.gC]) (by simp[kt,Nd.gC]) (by simp[kt,Nd.gC]) fun k m=>?_,?_⟩;have:k=(jB x n).1\/k=c:=by simpa[kt,Nd.gC] using m
  rcases this with rfl|rfl;exact r;exact s;rw[wb oC, <-u];simp
theorem KV (f:k6 x):Tm 1 2 0 (ku ea x)/\(ku ea x).iv=[x]:=by
 refine⟨.nk rfl (by show 1<=[x].length;simp) (by show [x].length<=3;simp) fun j d=>?_,wh _⟩;have:j=x:=by simpa[ku,kR,Nd.ps] using d
 rw[this];exact f
def nW (o:Option Nd):Prop:= ∀n,o=ed n->(∃h,Tm 1 2 h n)/\jZ n.iv
theorem EO {o:Option Nd} {c:ju} (h:nW o) (s:c.kp=ew->k6 (c.key,c.new)):nW (j6 o c)/\jz (j6 o c)=if c.kp then iN (jz o) (c.key,c.new) else l6 (jz o) c.key:=by
 unfold j6;cases t:c.kp with
 | true=>
  simp only[if_true];cases o with
  | none=>obtain⟨f,d⟩:=KV (s t);refine⟨fun n e=>?_,?_⟩;cases e;exact⟨⟨0,f⟩,by rw[d];exact List.pairwise_singleton _ _⟩;simp only[jz];rw[d];rfl
  | some n=>obtain⟨⟨k,f⟩,d⟩:=h n rfl;obtain⟨p,u,r⟩:=KU (s t) f d;refine⟨fun y e=>?_,?_⟩;cases e;exact⟨⟨p,u⟩,by rw[r];exact KJ d _⟩;simp only[jz];exact r
 | false=>
  simp only[ev,if_false];cases o with
  | none=>exact⟨fun n e=>(by cases e),rfl⟩
  | some n=>obtain⟨⟨k,f⟩,d⟩:=h n rfl;rcases KT (key:=c.key) f d with⟨j,m⟩|⟨y,p,j,m,q⟩;rw[j];exact⟨fun n e=>(by cases e),by simp only[jz];exact m.symm⟩;rw[j];refine⟨fun n e=>?_,by simp only[jz];exact q⟩;cases e;exact⟨⟨p,m⟩,by rw[q];exact KN d _⟩
end Go.Proofs.YtlefmmhlpgmbjaaGreat
