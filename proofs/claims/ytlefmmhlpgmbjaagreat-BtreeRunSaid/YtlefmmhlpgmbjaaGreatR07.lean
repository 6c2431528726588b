import Derived.Test.YtlefmmhlpgmbjaaGreatR06
open Option.some renaming injEq->ey,inj->e0
open Option renaming some->ez,none->eD,map_eq_some_iff->eV,map_some->e6,getD_some->fz
open List renaming mem_append_right->eA,map_append->eC,length_map->eE,getElem?_eq_getElem->eG,nodup_append->eH,map_cons->eL,mem_map->eM,length_nil->eN,mem_append_left->eO,mem_cons_of_mem->eQ,append_nil->eT,eq_nil_of_length_eq_zero->eW,getElem?_append_right->eX,take_succ_eq_append_getElem->eZ,map_eq_nil_iff->e2,flatten_append->e3,map_nil->e4,drop_eq_getElem_cons->e5,drop_of_length_le->e8,take_append_drop->e9,append_assoc->fj,take_of_length_le->ft,getElem_cons_zero->fu,set_append_right->fw,length_replicate->fx,set_cons_zero->fA,flatten_cons->fD,any_eq_false->fE
open Prod.mk renaming injEq->eB
open Go.Value renaming ownBlock->eF,slice->fl
open ByteArray renaming empty->eI
open Bool renaming false_eq_true->eJ,false->eP,true->eY
open Go.Proofs.Tryz renaming prog->eK,underlying3->fm,underlying118->fy
open Go renaming World->eR,wpQuiet_nil->e1,Value->fa,wpAny_take->fe,maxLen->ff,bodyPost_end->fg,Calls->fi,results->fB
open Go.RowKit.Below renaming heap_setCell->eS
open Nat renaming le_refl->eU,add_sub_cancel_left->e7,sub_self->fk,add_zero->fv,add_sub_cancel->fC
open Go.AllReady renaming cons->fb
open Go.Act renaming put->fh
open Array renaming getElem?_eq_some_iff->fq
open Go.Proofs.Tryz
set_option maxRecDepth 100000
set_option maxHeartbeats 4000000
open Go.Value renaming slice->gE,string->ha,bool->ht,pointer->hA
namespace Go.Proofs.YtlefmmhlpgmbjaaGreat
open Go.RowKit Go.Shelf
variable {h r gM b:Nat}{l1 l2:List AT}{ka kb x t:AT}{w w':eR}
theorem Nd.rM (n:Nd):n.er.size=n.size:=by unfold Nd.size;rw[Nd.od,Nd.jN,eE]
theorem Nd.uf (n:Nd):n.er.jO=n.jO:=by unfold Nd.jO;simp only[Nd.od,Nd.jN,eE,e2]
theorem Nd.pH (n:Nd):n.er.iX=n.iX:=by unfold Nd.iX;simp only[Nd.od,Nd.jN,eE,e2]
theorem KW (a b:Nd) (left:Bool) (K:Nat) (hK:(if left then a.size - 1 else a.size+1)=K):lu a b left=if (if left then a else b).jO then [(jo (ig a b) K).1,(jo (ig a b) K).2] else [ig a b]:=by
 unfold lu;cases left;simp only[eJ,if_false] at hK |-; rw[hK];simp only[if_true] at hK |-; rw[hK]
theorem Tm.ru {a b:AT} {p q s:Nat} (i:Tm p q h a.nd) (j:Tm r s h b.nd):a.gC.isEmpty=b.gC.isEmpty/\(a.gC≠[]->a.ps=[]/\b.ps=[])/\a.ps.length<=3/\b.ps.length<=3/\a.gC.length<=8/\b.gC.length<=8:=by
 cases h with
 | zero=>obtain⟨ka,k,c,-⟩:=i.px;obtain⟨kb,l,d,-⟩:=j.px;rw[AT.gT,e2] at ka kb;rw[AT.jb] at c d;rw[ka,kb];exact⟨rfl,fun h=>absurd rfl h,c,d,oC,oC⟩
 | succ h=>
  obtain⟨e,ka,k,c,-⟩:=i.lK;obtain⟨g,kb,l,d,-⟩:=j.lK;rw[AT.gT] at ka kb c d;rw[AT.jb] at e g;rw[eE] at c d;have v:a.gC≠[]:=by simpa using ka
  have y:b.gC≠[]:=by simpa using kb
  rw[e,g];refine⟨?_,fun _=>⟨rfl,rfl⟩,oC,oC,c,d⟩;cases m:a.gC with
  | nil=>exact absurd m v
  | cons=>cases u:b.gC with
   | nil=>exact absurd u y
   | cons=>rfl
def rN (gM b:Nat) (pv kv:fa) (page:Int) (l1 l2:List AT) (ka kb:AT) (left:Bool) (w:eR) (e:Ending) (w':eR):Prop:=
 e= .returned (.tuple #[])/\ ∃qz ke,sB gM w w' (.mk b pv kv [] (l1++([ka,kb]++l2)) page) (.mk b pv qz [] ke page)/\ke.map (fun s=>s.nd.er)=l1.map (fun s=>s.nd.er)++(lu ka.nd.er kb.nd.er left++l2.map fun s=>s.nd.er)
theorem KX (g:x.b=ka.b) (e:r=l1.length+1):(l1++([x]++l2)).map AT.ptr=((l1++([ka,kb]++l2)).map AT.ptr).take r++((l1++([ka,kb]++l2)).map AT.ptr).drop (r+1):=by
 have d:(l1++([ka,kb]++l2)).map AT.ptr=(l1++[ka]).map AT.ptr++kb.ptr::l2.map AT.ptr:=oC
 have c:((l1++[ka]).map AT.ptr).length=r:=by simp[e]
 rw[d,List.take_left' c,ED (by rw[c])];simp[AT.ptr,g]
theorem KY {c:AT} (i:c.b=ka.b) (g:r=l1.length+1):(l1++([c,x]++l2)).map AT.ptr=((l1++([ka,kb]++l2)).map AT.ptr).set r x.ptr:=by
 have e:(l1++([ka,kb]++l2)).map AT.ptr=(l1++[ka]).map AT.ptr++kb.ptr::l2.map AT.ptr:=oC
 have d:((l1++[ka]).map AT.ptr).length=r:=by simp[g]
 rw[e,fw _ _ (by rw[d];exact eU _),d,fk,fA];simp[AT.ptr,i]
theorem EP {d e qz:fa} {page:Int} {X gC:List AT} {c:eR} (C:l1++([ka,kb]++l2)=gC) (j:(AT.mk b d e [] gC page).fp.Nodup) (i: ∀y∈(AT.mk b d e [] gC page).fp,gM<=y/\y<w.heap.size) (A:gM<=b) (u:X≠[])
  (H:Bx c b (gX eP d qz page) 129) (E:gW c gM 77 2 d 0 []) (B:gW c gM 88 1 qz (l1++(X++l2)).length ((l1++(X++l2)).map AT.ptr)) (l: ∀s∈l1++l2,h9 gM c s) (q: ∀s∈X,h9 gM c s)
  (v:(AT.iO X).Nodup) (z: ∀y∈AT.iO X,y∈ka.fp++kb.fp\/w.heap.size<=y) (G:qz.ownBlock=e.ownBlock) (hK:gS (AT.mk b d e [] gC page).fp w c):
  sB gM w c (.mk b d e [] gC page) (.mk b d qz [] (l1++(X++l2)) page):=by
 subst C;have k:=j;rw[AT.fp] at k;obtain⟨⟨J,L,I⟩,-,-⟩:=pN.1 k;have D:AT.iO [ka,kb]=ka.fp++kb.fp:=by simp only[AT.iO,eT]
 have p: ∀y∈AT.iO (l1++([ka,kb]++l2)),y<w.heap.size:=fun y g=>(i y (by rw[AT.fp];exact eQ _ (eA _ (eA _ g)))).2;have m:=Kz (M:=[ka,kb]) (X:=X) I p v (by rw[D];exact z);exact xO j (fun y g=>(i y g).2) A (by simp[u]) H E B (fun s F=>by rcases jD.1 F with h|h;exact l s (eO _ h);rcases jD.1 h with h|h;exact q s h;exact l s (eA _ h)) (.inl G) m.1 m.2 hK
theorem ER (gM b:Nat) (E bt:fa) (page:Int) (l1 l2:List AT) (ka kb:AT) (left:Bool) (i:Nat) (w:eR) (h:h9 gM w (.mk b E bt [] (l1++([ka,kb]++l2)) page)) (ai:(AT.mk b E bt [] (l1++([ka,kb]++l2)) page).fp.Nodup)
  (bS:i=if left then l1.length+1 else 0) (ci:left=eP->l1.length=0) (cj:(l1++([ka,kb]++l2)).length<=8) (H:Nat) (a4:Tm (if left then 2 else 1) (if left then 4 else 3) H ka.nd) (b1:Tm (if left then 1 else 2) (if left then 3 else 4) H kb.nd) (bq:gM<=w.heap.size):
  fi eK 167 #[hA (ez ⟨b,0,eD⟩), .int .i64 i] w (rN gM b E bt page l1 l2 ka kb left w):=by
 obtain⟨cS,bK⟩:=nM (rN gM b E bt page l1 l2 ka kb left w);rw[bK];have b2:=gF bK;obtain⟨gC,l⟩:=nM (l1++([ka,kb]++l2));rw[l] at h ai cj;have aj:=h.hx;have a2:=h.hp;have av:=h.hk;have O:=h.hc;have B:=h.hb;simp only[AT.b,AT.pv,AT.kv,AT.ps,AT.gC,AT.page] at aj a2 av O B;obtain⟨L,ab⟩:=nM l1.length;have a1:gC.length=L+2+l2.length:=by rw[<-l];simp;omega
 have a0:gC[L]?=ez ka:=by rw[<-l,eX oM,ab,fk];rfl
 have bb:gC[L+1]?=ez kb:=by rw[<-l,eX oM,ab,e7];rfl
 have bp:L<gC.length:=oM
 have aO:L+1<gC.length:=oM
 rw[eG bp] at a0;rw[eG aO] at bb;have cg:gC.isEmpty=false:=by cases gC with
  | nil=>simp at bp
  | cons=>rfl
 rw[cg] at aj;obtain⟨e,S,M,bF,cK,aZ⟩:=qH av bp;obtain⟨aK,c',ap,bl,-,-⟩:=qH av aO;rw[M] at ap;obtain⟨rfl,rfl⟩:e=aK/\S=c':=by simpa using ap
 subst M;rw[e0 a0] at bF;rw[e0 bb] at bl;unfold AT.ptr at bF bl;have bQ:=(av.lt e aZ).2;have af:ka∈gC:=by rw[<-l];simp
 have aw:kb∈gC:=by rw[<-l];simp
 obtain⟨ak,a3,bx,bz,bA,bB⟩:=a4.ru b1;obtain⟨K,hK⟩:=nM ((if left then ka.nd.size - 1 else ka.nd.size+1));obtain⟨Sz,aX⟩:=nM ka.nd.size;have ay:Sz=ka.ps.length+ka.gC.length:=by rw[<-aX];unfold Nd.size;rw[AT.jb,AT.gT,eE]
 have cn:left=eY->1<=Sz:=fun cI=>by
  subst cI;simp only[if_true] at a4;rw[ay];cases H with
  | zero=>have:=a4.px.2.1;rw[AT.jb] at this;omega
  | succ H=>have:=a4.lK.2.2.1;rw[AT.gT,eE] at this;omega
 rw[aX] at hK;have bZ:=KW ka.nd.er kb.nd.er left K (by rw[Nd.rM,aX];exact hK);obtain⟨jO,D⟩:=nM ((if left then ka.nd.jO else kb.nd.jO));have cm:(if left then ka.nd.er else kb.nd.er).jO=jO:=by rw[<-D];cases left<;>simp[Nd.uf]
 rw[cm,KA] at bZ;have ax:=ai;rw[AT.fp] at ax;obtain⟨⟨cN,cO,az⟩,⟨bu,bv,bf⟩,bn,bo,aV⟩:=pN.1 ax;have bP:AT.iO gC=AT.iO l1++(ka.fp++(kb.fp++AT.iO l2)):=by rw[<-l];simp only[sO,AT.iO,eT,fj]
 have U: ∀y∈ka.fp++kb.fp,y∈AT.iO gC:=fun y d=>by rw[bP];simp only[jD] at d |-; rcases d with h|h<;>simp[h]
 have b0:=az;rw[bP] at b0;have bg:=eH.1 b0;have aS:=eH.1 bg.2.1;have bh:=eH.1 aS.2.1;have aC:(ka.fp++kb.fp).Nodup:=eH.2 ⟨aS.1,bh.1,fun x aj y d=>aS.2.2 x aj y (eO _ d)⟩;have W: ∀s∈l1++l2,∀y∈s.fp,y∉ka.fp++kb.fp:=fun s g y d C=>by
  rcases jD.1 g with h|h;. exact bg.2.2 y (AT.iK.2 ⟨s,h,d⟩) y (by simp only[jD] at C |-; rcases C with h|h<;>simp[h]) rfl
  have co:y∈AT.iO l2:=AT.iK.2 ⟨s,h,d⟩;rcases jD.1 C with h|h;exact aS.2.2 y h y (eA _ co) rfl;exact bh.2.2 y h y co rfl
 have z: ∀y,(y=b\/y∈E.ownBlock.toList\/y=e)->y∉ka.fp++kb.fp:=fun y d C=>by have aE:=U y C;rcases d with h|h|h;exact bf (by rw[<-h];exact aE);exact bo y h aE;exact aV y (by rw[h];simp[eF]) aE
 have X: ∀y∈AT.iO gC,y∈(AT.mk b E (gE (ez ⟨e,0,eD⟩) gC.length S) [] gC page).fp:=fun y d=>by rw[AT.fp];exact eQ _ (eA _ (eA _ d))
 have A:ka.b∈ka.fp++kb.fp:=by rw[ka.nj];simp
 have P:e≠b:=fun c=>bv (by rw[c];simp[eF]);have ao:b∉E.ownBlock.toList:=bu;have Y:e∉E.ownBlock.toList:=fun C=>bn e C (by simp[eF]);have a6:=gF (gK aC (gK W (gK z (gK X (gK A (gK P (gK ao (gK Y (gK U az)))))))));clear ax cN cO az bu bv bf bn bo aV bP b0 bg aS bh aC W z X A P ao Y U;have b4:=gF (gK aj (gK a2 (gK av O)));have bk:=gF (gK ai (gK h.lt (gK B bq)));have b3:=gF (gK ak (gK a3 (gK (gK bx (gK bz (gK bA bB))) (gK a4 b1))));have aT:=gF (gK l (gK ab (gK a1 (gK af aw))));have b9:=gF bZ;have cy:=gF (gK aX (gK ay D));obtain⟨n,bW⟩:=nM gC.length;have aH:=gF bW;obtain⟨q,V⟩:=aj.c2;unfold gX at q;rw[bW] at q cj bp aO cK;have bE:Hid (∀m,Below w.heap.size w m->fi eK 192 #[hA (ez ⟨ka.b,0,eD⟩)] m fun c w'=>c= .returned (.int .i64 Sz)/\Below m.heap.size m w'):=gF fun m ac=>by have:=Kt gM ka m ((O ka af).ij ac) oM oM;rw[aX] at this;exact this
 have bD:Hid (∀m,Below w.heap.size w m->fi eK 193 #[hA (ez ⟨if left then ka.b else kb.b,0,eD⟩)] m fun c w'=>c= .returned (ht jO)/\w'=m):=gF fun m ac=>by
  cases left with
  | true=>have:=EG gM ka m ((O ka af).ij ac);rw[<-D];exact this
  | false=>have:=EG gM kb m ((O kb aw).ij ac);rw[<-D];exact this
 obtain⟨j,bL⟩:=nM (L+1);rw[bL] at bl aO;have cb:j=L+1:=bL.symm;have b7:Hid (K<=12/\Sz<=11):=gF ⟨by rw[<-hK,ay];split<;>omega,oM⟩
 have a7:=gF cb;clear bK h ai aj a2 av O B bq l ab a1 a0 bb cg aZ ap af aw ak a3 bx bz bA bB aX ay bZ D cm bW bL cb a4 b1;have cJ:(left=eY->i=j/\1<=Sz/\K=Sz - 1)/\(left=eP->i=0/\L=0/\K=Sz+1):=⟨fun c=>⟨by rw[bS,c,a7.o,aT.o.2.1];rfl,cn c,by rw[<-hK,c];rfl⟩,fun c=>⟨by rw[bS,c];rfl,by rw[<-aT.o.2.1];exact ci c,by rw[<-hK,c];rfl⟩⟩;clear bS ci hK cn;obtain⟨aQ,bV⟩:=cJ;have ce: ∀m,Below w.heap.size w m->fi eK 194 #[hA (ez ⟨ka.b,0,eD⟩), hA (ez ⟨kb.b,0,eD⟩)] m fun c w'=>c= .returned (.tuple #[])/\ ∃al am,h9 gM w' (.mk ka.b al am (ka.ps++kb.ps) (ka.gC++kb.gC) ka.page)/\(AT.mk ka.b al am (ka.ps++kb.ps) (ka.gC++kb.gC) ka.page).fp.Nodup/\
   (∀y∈(AT.mk ka.b al am (ka.ps++kb.ps) (ka.gC++kb.gC) ka.page).fp,y∈ka.fp++kb.fp\/w.heap.size<=y)/\gS [ka.b] m w':=fun m ac=>by
  obtain⟨-,-,-,O⟩:=b4.o;obtain⟨-,-,-,af,aw⟩:=aT.o;obtain⟨ak,a3,⟨bx,bz,bA,bB⟩,-,-⟩:=b3.o;have cq:=ac.size;refine(KB gM ka kb m ((O ka af).ij ac) ((O kb aw).ij ac) a6.o.1 ak ⟨oM,oM,oM,oM⟩ (jU bk.o.2.2.2 cq)).mono ?_;rintro c w' ⟨rfl,al,am,bg,aS,bh,cR⟩;exact⟨rfl,al,am,bg,aS,fun y d=>(bh y d).imp id fun h=>jU cq h,cR⟩
 have cv:=gF ce;clear ce;cases left
 case' true=>
  obtain⟨c,aL,hK⟩:=aQ rfl;obtain rfl:j=i:=c.symm;clear aQ bV;simp only[if_true] at bD;go_enter func167,ntmps167;go_upto_region 1 with fail
  have bT:=a7.o;rw[show max ((j:Int) - 1) 0=(L:Int) by omega,show max (j:Int) 1=(j:Int) by omega];have cV: ¬j=L:=oM
  have bU:=b7.o
 case' false=>
  obtain⟨rfl,aL,hK⟩:=bV rfl;clear aQ bV;simp only[eJ,if_false] at bD;go_enter func167,ntmps167;go_upto_region 1 with fail
  have bT:=a7.o;rw[show((0:Nat):Int)=(L:Int) by omega,show max (-1:Int) 0=(L:Int) by omega,show max (0:Int) 1=(j:Int) by omega];have bU:=b7.o
 all_goals
  have bj:Hid ((ka.gC++kb.gC≠[]->ka.ps++kb.ps=[])/\((ka.ps++kb.ps).length<=1000/\(ka.gC++kb.gC).length<=1000)/\(jO=eY->0<K/\((ka.gC++kb.gC=[]->K<(ka.ps++kb.ps).length)/\(ka.gC++kb.gC≠[]->K<(ka.gC++kb.gC).length)))):=gF (by
   obtain⟨ak,a3,⟨bx,bz,bA,bB⟩,-,-⟩:=b3.o;obtain⟨-,ay,D⟩:=cy.o;have ck:ka.gC++kb.gC≠[]->ka.gC≠[]/\kb.gC≠[]:=fun h=>by
    cases a0:ka.gC with
    | nil=>rw[a0] at ak h;simp only[List.isEmpty_nil,List.nil_append] at ak h;exact absurd (List.isEmpty_iff.1 ak.symm) h
    | cons x cZ=>cases bb:kb.gC with
     | nil=>rw[a0,bb] at ak;cases ak
     | cons y c1=>exact⟨oC,oC⟩
   refine⟨fun h=>by obtain⟨aL,cE⟩:=a3 (ck h).1;rw[aL,cE];rfl,⟨by rw[iI];omega,by rw[iI];omega⟩,fun bY=>?_⟩;rw[bY] at D;simp only[if_true,eJ,if_false] at D;unfold Nd.jO at D;rw[AT.gT,AT.jb,eE] at D;simp only[iI]
   by_cases br:ka.gC++kb.gC=[]
   . obtain⟨M,ap⟩:=List.append_eq_nil_iff.1 br;rw[if_pos (by simp[M,ap])] at D;have:=of_decide_eq_true D;rw[M] at ay;simp only[eN,fv] at ay;refine⟨oM,fun _=>oM,fun h=>absurd br h⟩
   . obtain⟨M,ap⟩:=ck br;rw[if_neg (by simp[M,ap])] at D;have:=of_decide_eq_true D;have cD:=(a3 M).1;rw[cD] at ay;simp only[eN,Nat.zero_add] at ay;refine⟨oM,fun h=>absurd h br,fun _=>oM⟩)
 case' true=>
  have a8:wrap64 ((Sz:Int) - 1)=(K:Int):=by rw[IntWalk.wrap64_in _ oM];omega
  have b5:=gF (gK aL (gK hK a8));clear bT aL hK a8 bU;have bG:=jv.cells w;refine p3 oP oP ?_;repeat (any_goals (first|go_big_quiet_skip| (go_big_quiet_want;go_big_quiet_op;first|go_big_quiet_on|go_big_quiet_call ((fail)))|quiet_step ((fail))))
  refine e1 ?_;rintro cA ⟨⟨_,aP⟩,rfl⟩;clear bG;go_wp2_with fail;refine(bE.o _ aP).mono ?_;rintro c cB ⟨rfl,a'⟩;have N:=iq aP a';clear aP a'
 case' false=>
  have a8:wrap64 ((Sz:Int)+1)=(K:Int):=by rw[IntWalk.wrap64_in _ oM];omega
  have b5:=gF (gK aL (gK hK a8));clear bT aL hK a8 bU;have bG:=jv.cells w;refine p3 oP oP ?_;repeat (any_goals (first|go_big_quiet_skip| (go_big_quiet_want;go_big_quiet_op;first|go_big_quiet_on|go_big_quiet_call ((fail)))|quiet_step ((fail))))
  refine e1 ?_;rintro cA ⟨⟨_,aP⟩,rfl⟩;clear bG;go_wp2_with fail;refine(bE.o _ aP).mono ?_;rintro c cB ⟨rfl,a'⟩;have N:=iq aP a';clear aP a';go_wp2_with fail;refine(bE.o _ N).mono ?_;rintro c cC ⟨rfl,cd⟩;have N:=iq N cd;clear cd
 all_goals
  go_wp2_with fail;rw[b5.o.2.2];refine(bD.o _ N).mono ?_;rintro c cC ⟨rfl,rfl⟩;go_wp2_with fail;refine(cv.o _ N).mono ?_;rintro c W4 ⟨rfl,al,am,aM,aN,aa,aW⟩;obtain⟨aC,W,z,X,A,P,ao,Y,U,az⟩:=a6.o;obtain⟨aj,a2,av,O⟩:=b4.o;obtain⟨l,ab,a1,af,aw⟩:=aT.o;have bM:b∉[ka.b]:=fun h=>z b (.inl rfl) (by rw[lx.1 h];exact A);have bR:e∉[ka.b]:=fun h=>z e (.inr (.inr rfl)) (by rw[lx.1 h];exact A);have aB:=aW.xa (aj.gD N) bM;have aA:=(a2.ia N).iE aW (fun y d h=>z y (.inr (.inl (by rw[d];simp))) (by rw[lx.1 h];exact A));have aR:=(av.ia N).iE aW (fun y d h=>bR (by rw[<-oG d];exact h));have aF: ∀s∈l1++l2,h9 gM W4 s:=fun s g=>((O s (by rw[<-l];rcases jD.1 g with h|h<;>simp[h])).ij N).iE aW (fun y d h=>W s g y d (by rw[lx.1 h];exact A))
  have Z:gS (AT.mk b E (gE (ez ⟨e,0,eD⟩) gC.length S) [] gC page).fp w W4:=((gS.refl _ w).ic N).trans (aW.sub fun y d=>X y (U y (by rw[lx.1 d];exact A)));have b':e<W4.heap.size:=iU bQ Z.2.2.2.1;have cs:=bQ;have cr:=V;rw[aH.o] at aB;obtain⟨q,V⟩:=aB.c2;unfold gX at q;have F:=gF (gK (gK aM (gK aN aa)) (gK aB (gK aA (gK aR (gK aF Z)))));have b8:=gF (gK cs cr);have aG:=gF (gK bM bR);clear aC W z X A P ao Y U az aj a2 av O l ab a1 af aw bM bR aB aA aR aF Z cs cr aM aN aa aW bF bl N bQ;cases jO with
  | false=>
   obtain⟨p,bX⟩: ∃p,n=p+1:=⟨n - 1,oM⟩;have ch:=Kc gM (.slice (ez ⟨e,0,eD⟩) n S) p (gC.map AT.ptr) W4 (by rw[<-bX, <-aH.o];exact F.o.2.2.2.1) j oM (by intro u cM;obtain⟨cY,-,rfl⟩:=eM.1 cM;rfl) oM;have b6:=gF ch;have cw:=gF bX;clear ch bX;go_wp2_with fail;refine b6.o.mono ?_;rintro c aI ⟨c3,rfl,bd,au,be⟩;obtain⟨bw,bm,rfl⟩:=bd.lit;obtain⟨⟨aM,aN,aa⟩,aB,aA,aR,aF,Z⟩:=F.o;obtain⟨aC,W,z,X,A,P,ao,Y,U,az⟩:=a6.o;have an:=aB.grown au (fun c=>P (by rw[<-oG c.symm]));have cT:aI.cell? ⟨b,2,eD⟩=ez (.slice (ez ⟨e,0,eD⟩) n S):=by rw[an.cell];rfl
   have cU:aI.frozen? ⟨b,2,eD⟩=false:=an.free 2;have c0:=an.lt;have cx:=gF (gK bd (gK au (gK be an)));clear aM aN aa aB aA aR aF Z aC W z X A P ao Y U az bd au be an q V b6;go_wp2;refine fg (v:= .tuple #[]) (by simp[fB,results167,go_sem]) rfl ?_;rw[<-b2.o];obtain⟨bd,au,be,an⟩:=cx.o;obtain⟨⟨aM,aN,aa⟩,aB,aA,aR,aF,Z⟩:=F.o;obtain⟨aC,W,z,X,A,P,ao,Y,U,az⟩:=a6.o;obtain⟨l,ab,a1,af,aw⟩:=aT.o;obtain⟨ai,aQ,B,bq⟩:=bk.o;obtain⟨cH,cG⟩:=b8.o;have bc: ∀y,(y=b\/y=e)-> ∀s:AT,(∀cu∈s.fp,cu∈ka.fp++kb.fp\/w.heap.size<=cu)->y∉s.fp:=fun y d s g C=>by rcases g y C with h|h;rcases d with c|c;exact z y (.inl c) h;exact z y (.inr (.inr c)) h;rcases d with c|c<;>omega
   have bs: ∀y,(y=b\/y=e)-> ∀s∈l1++l2,y∉s.fp:=fun y d s g C=>by
    have aE:y∈AT.iO gC:=AT.iK.2 ⟨s,by rw[<-l];rcases jD.1 g with h|h<;>simp[h],C⟩
    have ax:=ai;rw[AT.fp] at ax;obtain⟨-,⟨bu,bv,bf⟩,bn,bo,aV⟩:=pN.1 ax;rcases d with c|c;exact bf (c▸aE);exact aV y (by rw[c];simp[eF]) aE
   have aY: ∀s:AT,h9 gM W4 s->b∉s.fp->e∉s.fp->h9 gM (aI.setCell ⟨b,2,eD⟩ (gE bw p bm)) s:=fun s g ac aZ=>g.same fun y d=>by rw[eS _ ⟨b,2,eD⟩ _ _ (show y≠b from fun c=>ac (c▸d))];exact au.block y (g.lt y d).2 (fun c=>aZ (by rw[<-oG c.symm];exact d))
   have cF:gS (AT.mk b E (gE (ez ⟨e,0,eD⟩) gC.length S) [] gC page).fp w (aI.setCell ⟨b,2,eD⟩ (gE bw p bm)):=(Z.pG au fun r bY=> .inl (by rw[AT.fp,oG bY];simp[eF])).set (by rw[AT.fp];simp);have cL:gW (aI.setCell ⟨b,2,eD⟩ (gE bw p bm)) gM 77 2 E 0 []:=aA.same fun y d=>by
    have cp:y∈E.ownBlock.toList:=by rw[d];simp
    rw[eS _ ⟨b,2,eD⟩ _ _ (show y≠b from fun c=>ao (c▸cp))];exact au.block y (aA.lt y d).2 (fun c=>Y (by rw[<-oG c.symm];exact cp))
   unfold rN;rw[l];refine⟨rfl, gE bw p bm,l1++([.mk ka.b al am (ka.ps++kb.ps) (ka.gC++kb.gC) ka.page]++l2),?_,?_⟩;refine EP l ai aQ B oC (an.set 2 _) cL ?_ (fun s g=>aY s (aF s g) (bs b (.inl rfl) s g) (bs e (.inr rfl) s g)) (fun s g=>?_) ?_ ?_ ?_ cF;have M:(l1++([AT.mk ka.b al am (ka.ps++kb.ps) (ka.gC++kb.gC) ka.page]++l2)).length=p:=by have:=cw.o;have:=aH.o;simp only[iI,j1,eN];omega
   have ap:(l1++([AT.mk ka.b al am (ka.ps++kb.ps) (ka.gC++kb.gC) ka.page]++l2)).map AT.ptr=(gC.map AT.ptr).take j++(gC.map AT.ptr).drop (j+1):=by rw[<-l];exact KX rfl (by rw[ab];exact a7.o)
   rw[M,ap];exact bd.same fun y d=>eS _ ⟨b,2,eD⟩ _ _ (fun c=>P (by rw[be] at d;rw[<-oG d];exact c));rw[lx.1 g];exact aY _ aM (bc b (.inl rfl) _ aa) (bc e (.inr rfl) _ aa);simp only[AT.iO,eT];exact aN;simp only[AT.iO,eT];exact aa;rw[be];rfl;rw[b9.o,if_neg oF];simp only[eC,eL,e4,mo]
  | true=>
   have a9:=F.o.1;obtain⟨a5,aq⟩:=nM (AT.mk ka.b al am (ka.ps++kb.ps) (ka.gC++kb.gC) ka.page);have bN:=KD gM a5 W4.drew;go_upto_region 8 with fail
   refine qm #[eP,eP,eP,eP,eP,eP,eP,eP,eP,eP] 10 oP oO rfl ?_;have B:=(Below.refl W4.heap.size W4).drew;obtain⟨aI,cc⟩:=nM W4.drew;rw[cc] at B bN |-;have an:=F.o.2.1.gD B;have bJ:e<aI.heap.size:=iU b' B.size;rw[aq] at a9;have bO:=bN (a9.1.ij B) a9.2.1 (by rw[<-aq];exact bj.o.1) (by rw[<-aq];exact bj.o.2.1) K (bj.o.2.2 (by first|rfl|trivial)).1 (by rw[<-aq];exact(bj.o.2.2 (by first|rfl|trivial)).2) (jU bk.o.2.2.2 (jU F.o.2.2.2.2.2.2.2.2.1 B.size));have cl:a5.ptr= hA (ez ⟨ka.b,0,eD⟩):=by rw[<-aq];rfl
   rw[cl] at bO;have aU:=gF bO;have bi:=gF (gK aq a9);have R:=gF B;clear q V bO bN a9 aq cl cc B b';obtain⟨q,V⟩:=an.c2;unfold gX at q;clear an;refine fe (i:=0) (v:=?_) rfl oP oP oP (fun _ _ _ h=>h) (Or.inl ⟨oO,?_⟩) ?_;rotate_left;. intro w;go_simp;try with_reducible rfl
   simp only[fh,List.setIfInBounds_toArray,fA];refine fe (i:=4) (v:=?_) rfl oP oP oP (fun _ _ _ h=>h) (Or.inl ⟨oO,?_⟩) ?_;rotate_left;. intro w;go_simp;try with_reducible rfl
   simp only[fh,gU];refine fe (i:=5) (v:=?_) rfl oP oP oP (fun _ _ _ h=>h) (Or.inl ⟨oO,?_⟩) ?_;rotate_left;. intro w;go_simp;try with_reducible rfl
   simp only[fh,gU];refine fe (i:=6) (v:=?_) rfl oP oP oP (fun _ _ _ h=>h) (Or.inl ⟨oO,?_⟩) ?_;rotate_left;. intro w;go_simp;try with_reducible rfl
   simp only[fh,gU];refine wpAny_ready (rs:=[1,7]) oP oC ?_;refine fb rfl (fun K hK=>?_) (fb rfl (fun K hK=>?_) AllReady.nil);focus
    go_simp;refine hK _ _ ?_;clear hK K;simp only[gU];refine fe (i:=2) (v:=?_) rfl oP oP oP (fun _ _ _ h=>h) (Or.inl ⟨oO,?_⟩) ?_;rotate_left;. intro w;go_simp;try with_reducible rfl
    simp only[fh,gU];refine wpAny_ready (rs:=[3,7]) oP oC ?_;refine fb rfl (fun K hK=>?_) (fb rfl (fun K hK=>?_) AllReady.nil);focus
     go_simp;refine hK _ _ ?_;clear hK K;simp only[gU];refine iG 7 fun K hK=>?_;go_simp;refine aU.o.mono ?_;rintro c W6 ⟨aJ,rr,rfl,G,ag,ah,ae,ad,k,T⟩;refine hK _ _ ?_;clear hK K;have ar:b∉[ka.b]:=aG.o.1;have aD:a5.b=ka.b:=by rw[<-bi.o.1];rfl
     rw[aD] at G k;clear aD;have J:=k.xa (F.o.2.1.gD R.o) ar;clear q V;obtain⟨q,V⟩:=J.c2;unfold gX at q;have ca:=iU bJ k.2.2.2.1;have bC:=gF (gK G (gK ag (gK ah (gK ae (gK ad (gK k (gK T J)))))));have I:=(F.o.2.2.2.1.ia R.o).iE k (fun y d h=>aG.o.2 (by rw[<-oG d];exact h));have bI:=I.free j;obtain⟨ct,bH⟩: ∃u,W6.cell? ⟨e,j,eD⟩=ez u:=by
      obtain⟨aK,c',c,ba,-,-⟩:=qH I (i:=j) (by rw[aH.o];exact aO);obtain⟨rfl,rfl⟩:e=aK/\S=c':=by simpa using c
      exact⟨_,ba⟩
     clear G ag ah ae ad k T ar J aU I;unfold AT.ptr;simp only[gU]
    rotate_left;focus
     go_simp;refine aU.o.mono ?_;rintro c W6 ⟨aJ,rr,rfl,G,ag,ah,ae,ad,k,T⟩;refine hK _ _ ?_;clear hK K;have ar:b∉[ka.b]:=aG.o.1;have aD:a5.b=ka.b:=by rw[<-bi.o.1];rfl
     rw[aD] at G k;clear aD;have J:=k.xa (F.o.2.1.gD R.o) ar;clear q V;obtain⟨q,V⟩:=J.c2;unfold gX at q;have ca:=iU bJ k.2.2.2.1;have bC:=gF (gK G (gK ag (gK ah (gK ae (gK ad (gK k (gK T J)))))));have I:=(F.o.2.2.2.1.ia R.o).iE k (fun y d h=>aG.o.2 (by rw[<-oG d];exact h));have bI:=I.free j;obtain⟨ct,bH⟩: ∃u,W6.cell? ⟨e,j,eD⟩=ez u:=by
      obtain⟨aK,c',c,ba,-,-⟩:=qH I (i:=j) (by rw[aH.o];exact aO);obtain⟨rfl,rfl⟩:e=aK/\S=c':=by simpa using c
      exact⟨_,ba⟩
     clear G ag ah ae ad k T ar J aU I;unfold AT.ptr;simp only[gU];refine iG 3 fun K hK=>?_;go_simp;refine hK _ _ ?_;clear hK K;simp only[gU]
   rotate_left 2;focus
    go_simp;refine aU.o.mono ?_;rintro c W6 ⟨aJ,rr,rfl,G,ag,ah,ae,ad,k,T⟩;refine hK _ _ ?_;clear hK K;have ar:b∉[ka.b]:=aG.o.1;have aD:a5.b=ka.b:=by rw[<-bi.o.1];rfl
    rw[aD] at G k;clear aD;have J:=k.xa (F.o.2.1.gD R.o) ar;clear q V;obtain⟨q,V⟩:=J.c2;unfold gX at q;have ca:=iU bJ k.2.2.2.1;have bC:=gF (gK G (gK ag (gK ah (gK ae (gK ad (gK k (gK T J)))))));have I:=(F.o.2.2.2.1.ia R.o).iE k (fun y d h=>aG.o.2 (by rw[<-oG d];exact h));have bI:=I.free j;obtain⟨ct,bH⟩: ∃u,W6.cell? ⟨e,j,eD⟩=ez u:=by
     obtain⟨aK,c',c,ba,-,-⟩:=qH I (i:=j) (by rw[aH.o];exact aO);obtain⟨rfl,rfl⟩:e=aK/\S=c':=by simpa using c
     exact⟨_,ba⟩
    clear G ag ah ae ad k T ar J aU I;unfold AT.ptr;simp only[gU];refine iG 1 fun K hK=>?_;go_simp;refine hK _ _ ?_;clear hK K;simp only[gU];refine fe (i:=2) (v:=?_) rfl oP oP oP (fun _ _ _ h=>h) (Or.inl ⟨oO,?_⟩) ?_;rotate_left;. intro w;go_simp;try with_reducible rfl
    simp only[fh,gU];refine iG 3 fun K hK=>?_;go_simp;refine hK _ _ ?_;clear hK K;simp only[gU]
   all_goals
    refine iG 8 fun K hK=>?_;go_simp;refine hK _ _ ?_;clear hK K;simp only[gU];refine iG 9 fun K hK=>?_;go_simp;refine hK _ _ ?_;clear hK K;refine kS ?_;clear bH bI;go_wp2;refine fg (v:= .tuple #[]) (by simp[fB,results167,go_sem]) rfl ?_;rw[<-b2.o];obtain⟨G,ag,ah,ae,ad,k,T,J⟩:=bC.o;obtain⟨-,aB,aA,aR,aF,Z⟩:=F.o;obtain⟨aq,aM,aN,aa⟩:=bi.o;obtain⟨aC,W,z,X,A,P,ao,Y,U,az⟩:=a6.o;obtain⟨l,ab,a1,af,aw⟩:=aT.o;obtain⟨ai,aQ,B,bq⟩:=bk.o;obtain⟨cH,cG⟩:=b8.o;obtain⟨ar,au⟩:=aG.o;have cX:=R.o.size;have cW:=Z.2.2.2.1;have cf: ∀y∈aJ.fp++rr.fp,y∈ka.fp++kb.fp\/w.heap.size<=y:=fun y d=>by rcases ad y d with h|h;exact aa y h;exact .inr oM
    have bc: ∀y,(y=b\/y=e)->y∉aJ.fp++rr.fp:=fun y d C=>by rcases cf y C with h|h;rcases d with c|c;exact z y (.inl c) h;exact z y (.inr (.inr c)) h;rcases d with c|c<;>omega
    have bs: ∀s∈l1++l2,e∉s.fp:=fun s g C=>by
     have aE:e∈AT.iO gC:=AT.iK.2 ⟨s,by rw[<-l];rcases jD.1 g with h|h<;>simp[h],C⟩
     have ax:=ai;rw[AT.fp] at ax;obtain⟨-,⟨bu,bv,bf⟩,bn,bo,aV⟩:=pN.1 ax;exact aV e (by simp[eF]) aE
    have cP: ∀s∈l1++l2,h9 gM W6 s:=fun s g=>((aF s g).ij R.o).iE k (fun y d h=>W s g y d (by rw[lx.1 h];exact A));have cQ:=(aA.ia R.o).iE k (fun y d h=>z y (.inr (.inl (by rw[d];simp))) (by rw[lx.1 h];exact A));have I:=(aR.ia R.o).iE k (fun y d h=>au (by rw[<-oG d];exact h));have cz:gS (AT.mk b E (gE (ez ⟨e,0,eD⟩) gC.length S) [] gC page).fp w W6:=(Z.ic R.o).trans (k.sub fun y d=>X y (U y (by rw[lx.1 d];exact A)));have aY: ∀s:AT,h9 gM W6 s->e∉s.fp->h9 gM (W6.setCell ⟨e,j,eD⟩ rr.ptr) s:=fun s g aZ=>g.same fun y d=>eS _ ⟨e,j,eD⟩ _ _ (show y≠e from fun c=>aZ (c▸d));unfold rN;rw[l];refine⟨rfl, gE (ez ⟨e,0,eD⟩) gC.length S,l1++([aJ,rr]++l2),?_,?_⟩;refine EP l ai aQ B oC ?_ ?_ ?_ (fun s g=>aY s (cP s g) (bs s g)) (fun s g=>?_) ?_ ?_ rfl ?_;rw[aH.o];exact J.jc (a:=⟨e,j,eD⟩) (fun c=>P c.symm) _;exact cQ.same fun y d=>eS _ ⟨e,j,eD⟩ _ _ (show y≠e from fun c=>Y (c▸(show y∈E.ownBlock.toList by rw[d];simp)));have M:(l1++([aJ,rr]++l2)).length=gC.length:=by rw[<-l];simp
    rw[M,KY (kb:=kb) (r:=j) G (by rw[ab];exact a7.o),l];exact I.pQ _;have:s=aJ\/s=rr:=by simpa using g
    rcases this with rfl|rfl;exact aY _ ag fun h=>bc e (.inr rfl) (eO _ h);exact aY _ ah fun h=>bc e (.inr rfl) (eA _ h);simp only[AT.iO,eT];exact ae;simp only[AT.iO,eT];exact cf;exact cz.set (by rw[AT.fp];simp[eF]);rw[b9.o,if_pos (by first|trivial|rfl)];rw[<-aq,mo] at T;rw[T];simp only[eC,eL,e4]
theorem sB.trans {j:eR} {i ES:AT} (h:sB gM w w' t i) (k:sB gM w' j i ES):sB gM w j t ES:=by
 have d:=h.keep.2.2.2.1;refine⟨k.b.trans h.b,k.lies,k.nodup,fun x m=>?_,?_⟩;rcases k.fp x m with c|c;exact h.fp x c;exact .inr (jU d c);refine⟨k.keep.1.trans h.keep.1,k.keep.2.1.trans h.keep.2.1,k.keep.2.2.1.trans h.keep.2.2.1,jU d k.keep.2.2.2.1,fun b e g=>?_⟩;refine(k.keep.2.2.2.2 b (iU e d) fun l=>?_).trans (h.keep.2.2.2.2 b e g);rcases h.fp b l with c|c;exact g c;omega
theorem cell_of_block (h:w'.heap[b]?=w.heap[b]?) (k:Nat):w'.cell? ⟨b,k,eD⟩=w.cell? ⟨b,k,eD⟩:=by simp[World.cell?,h]
theorem ET {l1 l2:List Nd} {a b:Nd} {left:Bool} {i:Nat} (c:i=if left then l1.length+1 else 0) (p:left=eP->l1.length=0) (d:(if left then b else a).iX=eY):kK (l1++([a,b]++l2)) i=l1++(lu a b left++l2):=by
 have g:(l1++([a,b]++l2))[l1.length]?=ez a:=by rw[eX (eU _),fk];rfl
 have j:(l1++([a,b]++l2))[l1.length+1]?=ez b:=by rw[eX oM,e7];rfl
 have u:(l1++([a,b]++l2)).length=l1.length+2+l2.length:=oN
 cases left with
 | true=>
  simp only[if_true] at c d;subst c;have e:l1.length+1<(l1++([a,b]++l2)).length:=oM
  have l:l1.length<(l1++([a,b]++l2)).length:=oM
  have m:(l1++([a,b]++l2))[l1.length]'l=a:=by rw[eG l] at g;exact e0 g
  have k:(l1++([a,b]++l2))[l1.length+1]'e=b:=by rw[eG e] at j;exact e0 j
  rw[zm e oM (by rw[k];exact d)];simp only[fC,m,k,Nat.zero_lt_succ,decide_true];rw[List.take_left' rfl,List.drop_append,e8 oM,e7,fj];rfl
 | false=>have q:=p rfl;have s:l1=[]:=eW q;subst s;simp only[eJ,if_false] at c d;subst c;rw[zm oC oC (by simpa using d)];simp
theorem KZ (gM:Nat) (q:ByteArray): ∀(t:AT) (w:eR) (a b h:Nat),2<=b->Tm a b h t.nd->h9 gM w t->t.fp.Nodup->jZ t.nd.iv->gM<=w.heap.size->fi eK 121 #[t.ptr, ha q] w (ue gM q t w):=by
 intro t
 induction t using AT.ind with
 | h b l M bw gC p br=>
 intro w bS bT a0 bq ah h ao aG aI
 by_cases J:gC=[]
 refine Kr gM q _ w h ao J ?_ ?_;obtain rfl:a0=0:=ah.leaf.2 (by rw[AT.gT,show(AT.mk b l M bw gC p).gC=gC from rfl,J];rfl);have:=ah.px.2.2.1;rw[AT.jb] at this;omega;have:=aG;rw[Nd.iJ (by rw[AT.gT,show(AT.mk b l M bw gC p).gC=gC from rfl,J];rfl),AT.jb] at this;exact this;have aL:gC.map AT.nd≠[]:=by simpa using J
 obtain⟨aa,rfl⟩: ∃aY,a0=aY+1:=by
  cases a0 with
  | zero=>exact absurd (ah.leaf.1 rfl) (by rw[AT.gT];exact aL)
  | succ aY=>exact⟨aY,rfl⟩
 obtain⟨a1,-,y,A,U⟩:=ah.lK;rw[AT.jb] at a1;rw[AT.gT] at y A U;rw[eE] at y A;simp only[AT.ps,AT.gC] at a1 y A U;subst a1;have af:=h.hx;have aT:=h.hp;have ab:=h.hk;have Z:=h.hc;have aH:=h.hb;simp only[AT.b,AT.pv,AT.kv,AT.ps,AT.gC,AT.page] at af aT ab Z aH;have bg:gC.isEmpty=false:=by cases gC<;>simp_all
 rw[bg] at af;simp only[AT.ptr,AT.b];obtain⟨R,aE⟩:=nM (ue gM q (.mk b l M [] gC p) w);rw[aE];have aC:=p7 q aL;obtain⟨C,ak⟩:=nM (ly (gC.map AT.nd) q);have bh: ∀E∈gC,E.nd.first=true:=fun E bI=>((U _ (eM.2 ⟨E,bI,rfl⟩)).qN oF oF).first;have al:C<gC.length:=by rw[ak,eE] at aC;exact aC
 have e:=Bq gC al;obtain⟨g,an⟩:=nM (gC[C]);obtain⟨l1,aP⟩:=nM (gC.take C);obtain⟨l2,bk⟩:=nM (gC.drop (C+1));rw[an,aP,bk] at e;have m:l1.length=C:=by rw[<-aP,List.length_take];omega
 have L:g∈gC:=by rw[e];simp
 have bp:ji q (AT.mk b l M [] gC p).nd.er=kt (kK (l1.map (fun s=>s.nd.er)++ji q g.nd.er::l2.map fun s=>s.nd.er) C):=by
  have W:(AT.mk b l M [] gC p).nd.er.gC=gC.map (fun s=>s.nd.er):=by rw[Nd.jN,AT.gT,List.map_map];rfl
  have bG:ly (gC.map fun s=>s.nd.er) q=C:=by rw[<-W,Nd.jN,zh,AT.gT];exact ak
  have ap:(AT.mk b l M [] gC p).nd.er.gC≠[]:=by rw[W];simpa using J
  rw[xc ap];simp only[W,bG,List.getElem_map,an];congr 2;rw[e,eC,eL,fw _ _ (by rw[eE,m];exact eU _),eE,m,fk];rfl
 have ad:Tm 2 4 aa g.nd:=U _ (eM.2 ⟨g,L,rfl⟩);have Y:jZ g.nd.iv:=aG.kid (k:=g.nd) (by rw[AT.gT];exact eM.2 ⟨_,L,rfl⟩);have T:=(xT (key:=q) (n:=g.nd.er) oF oF oF (Tm.lT.2 ad) (by rw[Nd.lS];exact Y)).1;have ae: ∀s∈l1++l2,Tm 2 4 aa s.nd:=fun s F=>U _ (eM.2 ⟨s,by rw[e];rcases jD.1 F with h|h<;>simp[h],rfl⟩)
 have aw:=gF aE;have ay:=gF bp;have a2:=gF (br g L);have bz:=gF (gK (gK ad Y) (gK T ae));have bC:=gF h.lt;have bE:=gF ao;have bf:fi eK 100 #[hA (ez ⟨b,0,eD⟩), ha q] w fun B w'=>B= .returned (.int .i64 C)/\w'=w:=by have:=Bg gM (.mk b l M [] gC p) q w h J bh (by show gC.length<=1000;omega);refine this.mono ?_;rintro B w' ⟨rfl,rfl⟩;exact⟨by rw[<-ak];rfl,rfl⟩
 have a6:=gF bf;obtain⟨u,E,rfl,aj,bJ,bi⟩:=qH ab al;rw[an] at aj;unfold AT.ptr at aj;have aJ:=(ab.lt u bi).2;have ai:=gF (gK af (gK aT (gK ab Z)));have av:=gF (gK e (gK m (gK A (gK y (gK al L)))));have bA:=gF bq;obtain⟨n,aQ⟩:=nM gC.length;have a7:=gF aQ;obtain⟨V,bt⟩:=af.c2;unfold gX at V;rw[aQ] at V al bJ;have ax:=gF (gK aH aI);have aR:=ao;rw[AT.fp] at aR;obtain⟨⟨bN,bO,aZ⟩,⟨bL,bM,bu⟩,bF,ba,bb⟩:=pN.1 aR;have aU: ∀c∈g.fp,c∈AT.iO gC:=fun c d=>AT.iK.2 ⟨g,L,d⟩;have aV: ∀c∈AT.iO gC,c∈(AT.mk b l (gE (ez ⟨u,0,eD⟩) gC.length E) [] gC p).fp:=fun c d=>by rw[AT.fp];exact eQ _ (eA _ (eA _ d))
 have aM:=aZ;rw[e,sO,sD] at aM;have aN:=eH.1 aM;have aO:=eH.1 aN.2.1;have be:=a2.o w 2 4 aa oF ad (Z g L) aO.1 Y aI;have a5:=gF be;have S: ∀s∈l1++l2,h9 gM w s/\ ∀c∈s.fp,c∉g.fp:=fun s F=>by
  have bK:s∈gC:=by rw[e];rcases jD.1 F with h|h<;>simp[h]
  refine⟨Z s bK,fun c d ar=>?_⟩;rcases jD.1 F with h|h;exact aN.2.2 c (AT.iK.2 ⟨s,h,d⟩) c (eO _ ar) rfl;exact aO.2.2 c ar c (AT.iK.2 ⟨s,h,d⟩) rfl
 have ac: ∀c∈AT.iO (l1++g::l2),c<w.heap.size:=fun c d=>(h.lt c (aV c (by rw[e];exact d))).2;have H: ∀c,(c=b\/c∈l.ownBlock.toList\/c=u)->c∉g.fp:=fun c d ar=>by have aX:=aU c ar;rcases d with h|h|h;exact bu (by rw[<-h];exact aX);exact ba c h aX;exact bb c (by rw[h];simp[eF]) aX
 have a4:=gF (gK S (gK ac H));have a9:=gF (gK aU aV);have bB:=gF aZ;clear aE bp br aG h ao bf aL aC ak bh e an aP bk m L af aT ab Z bg J bi aQ aH aI S ac H aU aV bN bO aZ bL bM bu bF ba bb aM aN aO be aR ad Y T ae U ah y A bq;go_enter func121,ntmps121;go_wp2_with fail;refine a6.o.mono ?_;rintro B az ⟨rfl,rfl⟩;clear a6;go_wp2_with fail;refine a5.o.mono ?_;rintro B W3 ⟨rfl,nV,j,G⟩;have ag:=j.keep.2.2.2.1;obtain⟨S,ac,H⟩:=a4.o;have au:=j.keep.xa ai.o.1 (H b (.inl rfl));rw[a7.o] at au;have bv:=ai.o.2.1.iE j.keep (fun c d=>H c (.inr (.inl (by rw[d];simp))));have bs:=ai.o.2.2.1.iE j.keep fun c d=>H c (.inr (.inr (oG d)));have aS: ∀s∈l1++l2,h9 gM W3 s:=fun s F=>(S s F).1.iE j.keep (S s F).2;have bd:gS (AT.mk b l (gE (ez ⟨u,0,eD⟩) gC.length E) [] gC p).fp az W3:=j.keep.sub fun c d=>a9.o.2 c (a9.o.1 c d);obtain⟨e,m,A,y,-,-⟩:=av.o;have aF:AT.iO [nV]=nV.fp:=by rw[sD];exact eT _
 have aW:=Bp (X:=[nV]) (z:=az.heap.size) (by rw[<-e];exact bB.o) ac (by rw[aF];exact j.nodup) (by rw[aF];exact j.fp);have P:(l1++([nV]++l2)).length=gC.length:=by rw[e];simp
 have bo:(l1++([nV]++l2)).map AT.ptr=gC.map AT.ptr:=by rw[e];simp[AT.ptr,j.b]
 have ap:l1++([nV]++l2)≠[]:=oC
 have bl: ∀s∈l1++([nV]++l2),h9 gM W3 s:=fun s F=>by
  rcases jD.1 F with h|h;exact aS s (eO _ h);rcases jD.1 h with h|h;have:s=nV:=by simpa using h
  rw[this];exact j.lies;exact aS s (eA _ h)
 have D:sB gM az W3 (.mk b l (gE (ez ⟨u,0,eD⟩) gC.length E) [] gC p) (.mk b l (gE (ez ⟨u,0,eD⟩) gC.length E) [] (l1++([nV]++l2)) p):=
  xO (ke:=l1++([nV]++l2)) (qz:= gE (ez ⟨u,0,eD⟩) gC.length E) bE.o (fun c d=>(bC.o c d).2) ax.o.1 ap (by rw[a7.o];exact au) bv (by rw[P,bo];exact bs) bl (.inl rfl) aW.1 (fun c d=>by
   rcases aW.2 c d with h|h;. exact .inl (by rw[e];exact h)
   . exact .inr h) bd
 have aq:=Ks gM nV W3 j.lies;obtain⟨bP,I⟩:=nM nV.nd.iX;rw[I] at aq;have bn:nV.ptr= hA (ez ⟨g.b,0,eD⟩):=by unfold AT.ptr;rw[j.b]
 rw[bn] at aq;have bR:W3.cell? ⟨u,C,eD⟩=ez (hA (ez ⟨g.b,0,eD⟩)):=by rw[cell_of_block (j.keep.2.2.2.2 u aJ (H u (.inr (.inr rfl)))) C];exact aj
 have bQ:u<W3.heap.size:=iU aJ ag;have a8:=gF aq;have a3:=gF (gK D (gK G (gK I j.lies)));clear V bt;obtain⟨V,bt⟩:=au.c2;unfold gX at V;clear j G ag S ac H au bv bs aS bd e m A y aF aW P bo ap bl D aq I bn aj aJ a5 a2 ai a4;go_wp2_with fail;refine a8.o.mono ?_;rintro B aA ⟨rfl,rfl⟩;clear a8;cases bP with
 | false=>go_wp2;refine fg (v:= .tuple #[]) (by simp[fB,results121,go_sem]) rfl ?_;rw[<-aw.o];obtain⟨D,G,I,-⟩:=a3.o;obtain⟨e,m,A,y,bH,-⟩:=av.o;refine⟨rfl,_,D,?_⟩;rw[mo,ay.o, <-G];rw[BA oN (by rw[List.getElem_append_right oN];simp[m,Nd.pH,I])];simp[kt]
 | true=>
  have bm:fi eK 167 #[hA (ez ⟨b,0,eD⟩), .int .i64 C] aA R:=by
   obtain⟨D,G,I,-⟩:=a3.o;obtain⟨e,m,A,y,bH,-⟩:=av.o;obtain⟨⟨ad,Y⟩,T,ae⟩:=bz.o;have ag:=D.keep.2.2.2.1;rw[<-G,Tm.lT] at T;have P:(l1++([nV]++l2)).length<=8:=by rw[e] at A;simpa using A
   rw[<-aw.o];cases C with
   | zero=>
    obtain rfl:l1=[]:=eW m;cases l2 with
    | nil=>rw[e] at y;simp at y;have:=bA.o;omega
    | cons r l2=>refine(ER gM b l _ p [] l2 nV r eP 0 aA D.lies D.nodup rfl (fun _=>rfl) P aa (by simpa using T) (by simpa using ae r oC) (jU ax.o.2 ag)).mono ?_;rintro B a' ⟨rfl,qz,ke,aD,aK⟩;refine⟨rfl,_,D.trans aD,?_⟩;rw[mo,aK,ay.o, <-G];have:=ET (l1:=[]) (l2:=l2.map fun s=>s.nd.er) (a:=nV.nd.er) (b:=r.nd.er) (left:=eP) (i:=0) rfl (fun _=>rfl) (by simp[Nd.pH,I]);exact congrArg kt this.symm
   | succ C=>
    obtain⟨O,N,rfl⟩: ∃O N,l1=N++[O]:=⟨l1.getLast (by intro B;rw[B] at m;simp at m),l1.dropLast,(List.dropLast_concat_getLast _).symm⟩;have bj:N.length=C:=by simpa using m
    have W:N++[O]++([nV]++l2)=N++([O,nV]++l2):=oC
    have am:=D;rw[W] at am P;refine(ER gM b l _ p N l2 O nV eY (C+1) aA am.lies am.nodup (by rw[bj];rfl) (fun h=>by cases h) P aa (by simpa using ae O oC) (by simpa using T) (jU ax.o.2 ag)).mono ?_;rintro B a' ⟨rfl,qz,ke,aD,aK⟩;refine⟨rfl,_,am.trans aD,?_⟩;rw[mo,aK,ay.o, <-G];have:=ET (l1:=N.map fun s=>s.nd.er) (l2:=l2.map fun s=>s.nd.er) (a:=O.nd.er) (b:=nV.nd.er) (left:=eY) (i:=C+1) (by simp[bj]) (fun h=>by cases h) (by simp[Nd.pH,I]);rw[<-this];simp[kt]
  have bD:=gF bm;clear bm;go_wp2_with fail;refine bD.o.mono ?_;intro B a' aB;have bc:=aB;rw[<-aw.o] at bc;obtain⟨rfl,-⟩:=bc;have bx:=gF aB;clear aB;go_wp2;refine fg (v:= .tuple #[]) (by simp[fB,results121,go_sem]) rfl ?_;exact bx.o
theorem K0 (gM:Nat) (d:ByteArray) (w:eR):fi eK 75 #[hA eD, ha d] w (ni gM w eD (jx eD d)):=by
 obtain⟨i,c⟩:=nM (ni gM w eD (jx eD d));rw[c];have e:=gF c;clear c;go_enter func75,ntmps75;go_wp2;rw[<-e.o];exact⟨eD,rfl,fun t h=>(by cases h),rfl,fun j g=>(by cases g),gS.refl _ _⟩
theorem K1 {d:ByteArray} {n:Nd} (g:t.nd.er=ji d n) (k:Tm 0 1 h t.nd):
  (t.gC=[]/\jx (ez n) d=if t.ps.length=0 then eD else ez t.nd.er)\/(∃c,t.gC=[c]/\jx (ez n) d=ez c.nd.er/\ ∃l,Tm 2 4 l c.nd)\/(t.gC≠[]/\t.gC.length≠1/\jx (ez n) d=ez t.nd.er):=by
 have e:(ji d n).gC=t.gC.map fun p=>p.nd.er:=by rw[<-g,Nd.jN,AT.gT,List.map_map];rfl
 have j:(ji d n).size=t.ps.length+t.gC.length:=by rw[<-g,Nd.rM];unfold Nd.size;rw[AT.jb,AT.gT,eE]
 cases i:t.gC with
 | nil=>rw[i] at e j;left;refine⟨rfl,?_⟩;simp only[jx,e,j,e4,eN,fv,g]
 | cons c r=>
  rw[i] at e j;right;cases r with
  | nil=>
   left;refine⟨c,rfl,by simp only[jx,e,eL,e4],?_⟩;cases h with
   | zero=>have:=k.px.1;rw[AT.gT,i] at this;cases this
   | succ h=>exact⟨h,k.lK.2.2.2.2 _ (by rw[AT.gT,i];simp)⟩
  | cons q r=>
   right;refine⟨oC,oC,?_⟩;have m: ¬(ji d n).size=0:=by rw[j];simp
   simp only[jx,e,eL,if_neg m,g]
theorem K2 (gM:Nat) (C:ByteArray) (t:AT) (w:eR) (h:h9 gM w t) (ak:t.fp.Nodup) (av:Nat) (aa:Tm 1 2 av t.nd) (P:jZ t.nd.iv) (ah:gM<=w.heap.size):
  fi eK 75 #[t.ptr, ha C] w (ni gM w (ez t) (jx (ez t.nd.er) C)):=by
 have ai:=KZ gM C t w 1 2 av oF aa h ak P ah;have s:=(xT (key:=C) (n:=t.nd.er) oF oF oF (Tm.lT.2 aa) (by rw[Nd.lS];exact P)).1;obtain⟨aJ,O⟩:=nM (ni gM w (ez t) (jx (ez t.nd.er) C));rw[O];have D:=gF O;have E:=gF ai;have ac:=gF s;have V:t.ptr= .pointer (ez ⟨t.b,0,eD⟩):=rfl;rw[V];rw[V] at E;obtain⟨tb,G⟩:=nM t.b;rw[G];rw[G] at E;have ay:=gF G;clear O ai s h ak aa P ah V G;go_enter func75,ntmps75;go_wp2_with fail;refine E.o.mono ?_;rintro L aK ⟨rfl,g,c,k⟩;have s:=ac.o;rw[<-k,Tm.lT] at s;have aE:=K1 k s;have H:=c.lies.hx;obtain⟨aU,aN,aq⟩:=c.lies.hp.lit;obtain⟨au,ck,Y⟩:=c.lies.hk.lit;have R:g.b=tb:=c.b.trans ay.o;rw[R,aq,Y] at H;have v:=gF (gK c k);have aw:=gF c.lies.hk;have ax:=gF Y;obtain⟨aH,A⟩:=nM g.ps.length;obtain⟨Z,p⟩:=nM g.gC.length;obtain⟨X,m⟩:=nM g.gC.isEmpty;rw[A,p,m] at H;obtain⟨az,aR⟩:=H.c2;unfold gX at az;have Hb:=gF R;clear c k s H aq Y R E ac;rcases aE with⟨d,e⟩|⟨j,d,e,aA,N⟩|⟨d,af,e⟩;.
  have S:Z=0:=by rw[<-p,d];rfl
  have z:X=true:=by rw[<-m,d];rfl
  subst S z;have q:=gF (gK d e);have ab:=gF A;clear d e A p m
  by_cases W:aH=0
  . subst W;go_wp2;rw[<-D.o];obtain⟨c,k⟩:=v.o;refine⟨eD,rfl,fun t h=>(by cases h),?_,fun u B=>(by cases B),c.keep⟩;rw[q.o.2,ab.o];rfl
  go_wp2;rw[<-D.o];obtain⟨c,k⟩:=v.o;refine⟨ez g,by rw[jP,AT.ptr,Hb.o];rfl,fun t h=>(by cases h;exact⟨c.lies,c.nodup⟩),?_,c.fp,c.keep⟩;rw[q.o.2,ab.o,if_neg W];rfl
 .
  have S:Z=1:=by rw[<-p,d];rfl
  have z:X=false:=by rw[<-m,d];rfl
  subst S z;have F:=aw.o;rw[d] at F;obtain⟨M,cg,ae,J,aD,aj⟩:=qH (i:=0) F oC;rw[fu] at J;have aP:=(F.lt M aj).2;have U:=ax.o;rw[ae] at U;obtain⟨rfl,rfl⟩:ez ⟨M,0,eD⟩=au/\cg=ck:=by
   have:au=ez ⟨M,0,eD⟩/\ck=cg:=by have:=U;simp at this;exact⟨this.1.symm,this.2.2.symm⟩
   exact⟨this.1.symm,this.2.symm⟩
  have l:=v.o.1.lies.hc j (by rw[d];simp);have I:=l.hx;obtain⟨aV,aO,ar⟩:=l.hp.lit;obtain⟨aT,aM,ap⟩:=l.hk.lit;rw[ar,ap] at I;obtain⟨aI,am⟩:=nM j.ps.length;obtain⟨aS,al⟩:=nM j.gC.length;obtain⟨ao,T⟩:=nM j.gC.isEmpty;rw[am,al,T] at I;obtain⟨ad,aG⟩:=I.c2;unfold gX at ad;unfold AT.ptr at J;have an:ao=eY-> ¬aI=0:=fun L=>by rw[<-T,List.isEmpty_iff] at L;obtain rfl:aA=0:=N.leaf.2 (by rw[AT.gT,L];rfl);have:=N.px.2.1;rw[AT.jb] at this;omega
  obtain⟨aL,y⟩:=nM j.b;rw[y] at J ad aG;have q:=gF (gK d (gK e (gK l y)));simp only[j1,eN,Nat.zero_add] at aD;clear d e N A p m F ae aj U l I ar ap am al T y;cases ao
  case' true=>have W:=an rfl
  rotate_left;all_goals
   clear an;go_wp2;rw[<-D.o];obtain⟨c,k⟩:=v.o;obtain⟨d,e,l,y⟩:=q.o;have aF: ∀u∈j.fp,u∈g.fp:=fun u B=>by rw[g.nj,d];simp only[j4,jD,AT.iO];exact .inr (.inr (.inr (.inl B)))
   have aB:j.fp.Nodup:=by have:=c.nodup;rw[g.nj,d] at this;have ag:=(pN.1 this).1.2.2;rw[sD] at ag;exact(eH.1 ag).1
   refine⟨ez j,by rw[jP,AT.ptr,y];rfl,fun t h=>(by cases h;exact⟨l,aB⟩),?_,fun u B=>c.fp u (aF u B),c.keep⟩;rw[e];rfl
 have aQ:Z≠1:=by rw[<-p];exact af
 have z:X=false:=by rw[<-m];cases aC:g.gC with
  | nil=>exact absurd aC d
  | cons=>rfl
 subst z;have q:=gF e;clear d e af A p m;go_wp2;rw[<-D.o];obtain⟨c,k⟩:=v.o;refine⟨ez g,by rw[jP,AT.ptr,Hb.o];rfl,fun t h=>(by cases h;exact⟨c.lies,c.nodup⟩),?_,c.fp,c.keep⟩;rw[q.o];rfl
theorem K3 (gM:Nat) (c:ByteArray) (o:Option AT) (w:eR) (h: ∀t,o=ez t->h9 gM w t/\t.fp.Nodup/\(∃h,Tm 1 2 h t.nd)/\jZ t.nd.iv) (j:gM<=w.heap.size):
  fi eK 75 #[jP o, ha c] w (ni gM w o (jx (o.map fun t=>t.nd.er) c)):=by
 cases o with
 | none=>exact K0 gM c w
 | some t=>obtain⟨d,e,⟨k,g⟩,i⟩:=h t rfl;exact K2 gM c t w d e k g i j
open Go.RowKit
variable {w w':eR}{b n:Nat}{f:ByteArray->Option Int}
theorem zn:Maps.Keyed eK 9:=Maps.string_keyed underlying9
theorem ug {s:ByteArray} (c:s.size<=ff):keyOf eK 9 (.string s)=ez (.string s.data.toList):=WideMaps.keyOf_string_mk underlying9 c
theorem K4 (w:eR):(zeroValue 3).run eK w= .ok (.int .i64 0) w:=oP
theorem K5 {a b:ByteArray} (h:a.data.toList=b.data.toList):a=b:=ByteArray.ext (Array.ext' h)
def lV (w:eR) (b n:Nat) (f:ByteArray->Option Int):Prop:=
 ∃D:DataW Unit,w.ownsMap eK 9 (plainElem eK 3) b n D/\ ∀s:ByteArray,Maps.has D (.string s.data.toList)=(f s).isSome/\ ∀p,f s=ez p->D.atKey (.string s.data.toList) (.lit (.int .i64 0))= .lit (.int .i64 p)
theorem lV.made (w:eR):lV (w.alloc (.map #[] 0)) w.heap.size 0 (fun _=>eD):=⟨.map [],World.ownsMap_made _ _ _ _,fun _=>⟨rfl,fun _ h=>by cases h⟩⟩
theorem lV.kept {c:Option Nat} (h:lV w b n f) (i:w.grownBy w' c) (j:ez b≠c):lV w' b n f:=by
 obtain⟨d,e,g⟩:=h;exact⟨d,e.kept i j,g⟩
theorem lV.lt (h:lV w b n f):b<w.heap.size:=by
 obtain⟨d,c,_⟩:=h;exact c.lt
theorem lV.obj (h:lV w b n f): ∃d c,w.heap[b]?=ez (.map d c):=by
 obtain⟨g,⟨d,c,e,_⟩,_⟩:=h;exact⟨d,c,e⟩
theorem kx.obj {l:List Int} (h:kx w b n l): ∃d c,w.heap[b]?=ez (.map d c):=by
 obtain⟨g,⟨d,c,e,_⟩,_⟩:=h;exact⟨d,c,e⟩
theorem lV.same (h:lV w b n f) (k:w'.heap[b]?=w.heap[b]?):lV w' b n f:=by
 obtain⟨c,⟨e,d,g,j⟩,i⟩:=h;exact⟨c,⟨e,d,k.trans g,j⟩,i⟩
def qq (f:ByteArray->Option Int) (s:ByteArray) (p:Int):ByteArray->Option Int:=fun t=>if t=s then ez p else f t
section
variable {ops:Array Oper} {rest:List Oper} {o:Oper} {a:Act} {Q:Exit->Act->eR->Prop} {w:eR}
theorem K6 {b n:Nat} {f:ByteArray->Option Int} (y:lV w b n f) (u:n<ff) (s:ByteArray) (g:s.size<=ff) (p:Int) (z:ny p):
  ∃w',(Instr.mapUpdate 118 (.map (ez b)) (ha s) (.int .i64 p)).run eK w= .ok () w'/\lV w' b (n+1) (qq f s p)/\w.grownBy w' (ez b):=by
 obtain⟨B,c,j⟩:=y;obtain⟨w',A,v,m⟩:=c.update zn fy u (key:= .string s) (val:= .int .i64 p) (kl:= .string s.data.toList) (d:= .lit (.int .i64 p)) (ps:=[]) (ug g) (plainElem_int fm (uM z));refine⟨w',A,⟨_,v,fun t=>?_⟩,m⟩;unfold qq
 by_cases i:t=s
 subst i;rw[if_pos rfl];refine⟨by rw[Maps.has_put_same c.isMap (zn.key (ug g))];rfl,fun q e=>?_⟩;obtain rfl:p=q:=e0 e;rw[Maps.atKey_put_same c.isMap (zn.key (ug g))];rw[if_neg i];have k:(Lit.string t.data.toList)≠ .string s.data.toList:=fun l=>i (K5 (by injection l));exact⟨by rw[Maps.has_put_other k];exact(j t).1,fun q e=>by rw[Maps.atKey_put_other k];exact(j t).2 q e⟩
theorem K7 {b n:Nat} {f:ByteArray->Option Int} (h:lV w b n f) (s:ByteArray) (m:s.size<=ff):(Instr.lookup 118 (.map (ez b)) (ha s) eY).run eK w= .ok (.tuple #[.int .i64 ((f s).getD 0), ht (f s).isSome]) w:=by
 obtain⟨u,i,j⟩:=h;obtain⟨d,k⟩:=j s;obtain⟨z,y,l,q⟩:=i.look_ok zn fy (K4 w) (plainElem_int fm oF) (ug m);rw[l,d];obtain⟨v,rfl,g,-⟩:=plainElem_int_inv fm q;have c:=congrArg Prod.fst g;simp only at c;cases e:f s
 case' none=>rw[e] at d;rw[Maps.atKey_of_not_has d] at c
 rotate_left
 case' some p=>rw[k p e] at c
 all_goals
  injection c with c
  injection c with _ c
  rw[<-c];rfl
end
mutual
def Nd.pre:Nd->List Nd
 | .mk ps ks g=> .mk ps ks g::Nd.sR ks
def Nd.sR:List Nd->List Nd
 | []=>[]
 | k::ks=>k.pre++Nd.sR ks
end
theorem Nd.uh (l:List Nd):Nd.sR l=(l.map Nd.pre).flatten:=by
 induction l with
 | nil=>rfl
 | cons x l c=>rw[Nd.sR,c];rfl
theorem Nd.jy (n:Nd):n.pre=n::(n.gC.map Nd.pre).flatten:=by cases n;rw[Nd.pre,Nd.uh];rfl
def lW (f:ByteArray->Option Int) (l:List Nd):ByteArray->Option Int:=l.foldl (fun f k=>qq f (bs (iy k)) k.page) f
theorem K8 (f:ByteArray->Option Int) (a b:List Nd):lW f (a++b)=lW (lW f a) b:=List.foldl_append
def wj (n:Nd):Prop:= ∀k∈n.pre,lC k/\ny k.page
theorem wj.kid {n k:Nd} (h:wj n) (c:k∈n.gC):wj k:=fun x d=>h x (by rw[Nd.jy];exact eQ _ (List.mem_flatten.2 ⟨_,eM.2 ⟨k,c,rfl⟩,d⟩))
theorem wj.self {n:Nd} (h:wj n):lC n/\ny n.page:=h n (by rw[Nd.jy];simp)
theorem h9.cells {gM:Nat} {w:eR}: ∀{t:AT},h9 gM w t-> ∀x∈t.fp,∃d g A,w.heap[x]?=ez (.cells d g A)/\(g=129\/g=77\/g=88):=by
 intro t
 induction t using AT.ind with
 | h b J G I F H C=>
  intro h x c;have l:=h.hx;have m:=h.hp;have p:=h.hk;have q:=h.hc;simp only[AT.b,AT.pv,AT.kv,AT.gC,AT.ps] at l m p q;rw[AT.fp,j4,jD,jD] at c;have u: ∀{i:TypeId} {y n:Nat} {k:fa} {z:List fa},gW w gM i y k n z-> ∀j∈k.ownBlock.toList,∃d,w.heap[j]?=ez (.cells d i (0,0)):=by
   intro i y n k z B j s;rcases B.2 with⟨rfl,_⟩|⟨g',D,E,rfl,_,e,_⟩;simp[eF] at s;have:j=g':=by have h:=s;simp[eF] at h;exact h
   subst this;exact⟨_,e⟩
  rcases c with rfl|c|c|c;exact⟨_,_,_,l, .inl rfl⟩;obtain⟨d,e⟩:=u m x c;exact⟨_,_,_,e, .inr (.inl rfl)⟩;obtain⟨d,e⟩:=u p x c;exact⟨_,_,_,e, .inr (.inr rfl)⟩;obtain⟨t,v,c⟩:=AT.iK.1 c;exact C t v (q t v) x c
theorem h9.qs {gM:Nat} {w:eR} {t:AT} (h:h9 gM w t) {b:Nat} (i: ∃e c,w.heap[b]?=ez (.map e c)):b∉t.fp:=fun j=>by
 obtain⟨k,m,l,g,_⟩:=h.cells b j;obtain⟨e,c,d⟩:=i;rw[g] at d;cases d
theorem h9.rv {gM:Nat} {w w':eR} {t:AT} (h:h9 gM w t) {b:Nat} (e:b∉t.fp) (g:w.grownBy w' (ez b)):h9 gM w' t:=
 h.same fun x c=>g.block x (h.lt x c).2 (fun d=>e (by
  have:x=b:=by simpa using d
  rw[<-this];exact c))
theorem nL {a b c:eR} {row:Option Nat} (h:a.grownBy b row) (k:b.grownBy c row):a.grownBy c row:=
 ⟨k.os.trans h.os,k.tape.trans h.tape,k.output.trans h.output,jU h.size k.size,fun g d e=>(k.block g (iU d h.size) e).trans (h.block g d e)⟩
theorem BB {a b:eR} (h:Below a.heap.size a b) (row:Option Nat):a.grownBy b row:=gY h (eU _) row
theorem BC {n:Nd} (h:lC n):(oY n).length<=400:=by
 unfold oY;rcases h with⟨c,d,e⟩|⟨c,d,e⟩;rw[if_pos c];have:=y3 e d n.ps.length;rw[AV] at this;omega;rw[if_neg (by intro g;rw[g] at c;simp at c)];have:=A0 (gC:=n.gC) e d n.gC.tail.length;rw[AY] at this;omega
theorem K9 (gM kb:Nat): ∀(t:AT) (w:eR) (m:Nat) (f:ByteArray->Option Int),h9 gM w t->wj t.nd->lV w kb m f->m+t.nd.pre.length<=1000000->
  fi eK 73 #[t.ptr, .map (ez kb)] w fun e w'=>e= .returned (.tuple #[])/\lV w' kb (m+t.nd.pre.length) (lW f t.nd.pre)/\w.grownBy w' (ez kb):=by
 intro t
 induction t using AT.ind with
 | h b I G H gC page aM=>
 intro w m f h j g ad;have F:=h.hx;have A:=h.hk;have Y:=h.hc;simp only[AT.b,AT.pv,AT.kv,AT.gC,AT.page] at F A Y;simp only[AT.ptr,AT.b];obtain⟨d,l⟩:=nM ((AT.mk b I G H gC page).nd);have p:d.gC=gC.map AT.nd:=by rw[<-l,AT.gT];rfl
 have D:d.page=page:=by rw[<-l,AT.ql];rfl
 rw[l] at j ad |-;have y:=fun an aY=>DV gM (.mk b I G H gC page) an (h.ij (w':=an) aY) (by rw[l];exact j.self.1);rw[l] at y;simp only[AT.ptr,AT.b] at y;obtain⟨T,q⟩:=nM (bs (iy d));rw[q] at y;have E:d.pre=d::(d.gC.map Nd.pre).flatten:=Nd.jy d;have aL:T.size<=ff:=by
  rw[<-q,lM];have:(iy d).length<=2000:=by unfold iy jg;have:=BC j.self.1;rw[iI,fx];omega
  unfold ff;omega
 have R:d.pre.length=1+((gC.map AT.nd).map Nd.pre).flatten.length:=by rw[E,p,j1];omega
 have aF:=h.qs g.obj;have ac:=h.lt;have aO:=gF j;have aP:=gF aM;have V:=gF (gK h aF);have N:=gF (gK E (gK p (gK D (gK q R))));have aR:=gF y;have aQ:=gF g;have aT:=gF aL;have aS:Hid (ny page):=gF (D▸j.self.2);obtain⟨a2,cg,ai⟩:=A.lit;rw[ai] at F;have a1:gC.length<=8:=by
  have i:d.gC.length=gC.length:=by rw[p,eE]
  rcases j.self.1 with⟨au,_⟩|⟨_,au,_⟩;rw[au] at i;simp at i;omega;omega
 obtain⟨n,ae⟩:=nM gC.length;rw[ae] at F a1;have ak:=gF (gK ai (gK A Y));have M:=gF ae;obtain⟨u,ah⟩:=F.c2;unfold gX at u;have am:Hid (m+d.pre.length<=1000000):=gF ad;clear R aF ac j aM h E p D q y g aL l ai A Y ae ad F;go_enter func73,ntmps73;go_upto_region 1 with fail
 have aX:=jv.cells w;refine pS 7 1 #[eY,eY,eY,eY,eY,eY,eY,eP] (fun s=>if s=2 then ez (iw (ha T)) else if s=4 then ez (iw (hA (ez ⟨b,0,eD⟩))) else eD) oP oO oO oP ?_;simp only[List.take_succ_cons,List.take_zero];refine LW.b 2 2 ?_;simp only[jC];repeat (go_big_quiet_step (fail))
 refine e1 ?_;refine LW.z ?_ ?_;. intro aN _;unfold ix;go_simp;exact qF (aR.o _ aN.2)
 intro _;simp only[fh,gU]
 (try simp only[iw])
 refine LW.b 1 4 ?_;simp only[jC];repeat (go_big_quiet_step (fail))
 refine e1 ?_;refine LW.z ?_ ?_;intro aN _;exact pC oO;intro _;simp only[fh,gU]
 (try simp only[iw])
 refine LW.b 2 7 ?_;simp only[jC];repeat (go_big_quiet_step (fail))
 refine e1 ?_;refine LW.done ?_;intro aV k;have O:=k.below;refine iG 7 fun K hK=>?_;go_simp;have aH:=(V.o.1.ij O);have ax:lV aV kb m f:=aQ.o.kept (BB O eD) oC;obtain⟨ao,aK,X,aa⟩:=K6 ax (by have:=am.o;have:=N.o.2.2.2.2;unfold ff;omega) T aT.o page aS.o;rw[aK];go_simp;refine hK _ _ ?_;clear hK K aK;simp only[gU];refine kS ?_;have aG:kb∉(AT.mk b I G H gC page).fp:=V.o.2;have P:h9 gM ao (.mk b I G H gC page):=aH.rv aG aa;have av:w.grownBy ao (ez kb):=nL (BB O _) aa;obtain⟨aq,Z⟩:=nM (qq f T page);rw[Z] at X;have S:=P.hx;have aE:=P.hk;simp only[AT.b,AT.pv,AT.kv,AT.gC,AT.page] at S aE;rw[ak.o.1,M.o] at S;clear u ah aX;obtain⟨u,ah⟩:=S.c2;unfold gX at u;have J:=gF (gK P (gK X (gK av Z)));clear k O aH ax X aa aG P av Z S aE;go_wp2;clear u ah
 go_loopw [20] (fun s wr=> ∃c:Nat,c<=n/\s= .int .i64 c/\h9 gM wr (.mk b I G H gC page)/\lV wr kb (m+1+(((gC.take c).map AT.nd).map Nd.pre).flatten.length) (lW aq (((gC.take c).map AT.nd).map Nd.pre).flatten)/\w.grownBy wr (ez kb)) (fun s _=>n - (intOf s).toNat)
 case atStart=>exact⟨0,oM,rfl,J.o.1,by simpa[lW] using J.o.2.1,J.o.2.2.1⟩
 case round=>
  obtain⟨c,A,rfl,i,g,k⟩:=hrel;have C:=i.hk;simp only[AT.kv,AT.gC] at C
  by_cases ac:c<n
  .
   have ab:c<gC.length:=by rw[M.o];exact ac
   obtain⟨ar,aW,ap,W,aI,aC⟩:=qH C ab;have a0:=(C.lt ar aC).2;have af:=ak.o.1;rw[ap] at af;obtain⟨rfl,rfl⟩:ez ⟨ar,0,eD⟩=a2/\aW=cg:=by have h:=af;simp at h;exact⟨h.1,h.2⟩
   have B:gC[c]∈gC:=List.getElem_mem ab;have aA:=i.hc gC[c] B;have ag:(((gC.take (c+1)).map AT.nd).map Nd.pre).flatten=(((gC.take c).map AT.nd).map Nd.pre).flatten++gC[c].nd.pre:=by rw[eZ ab,eC,eC,e3];simp
   have aJ:(((gC.take (c+1)).map AT.nd).map Nd.pre).flatten.length<=((gC.map AT.nd).map Nd.pre).flatten.length:=by
    have:gC.map AT.nd=(gC.take (c+1)).map AT.nd++(gC.drop (c+1)).map AT.nd:=by rw[<-eC,e9]
    rw[this,eC,e3,iI];omega
   have aD:=aP.o gC[c] B wr _ _ aA (aO.o.kid (by rw[N.o.2.1];exact eM.2 ⟨_,B,rfl⟩)) g (by
    have:=am.o;have:=N.o.2.2.2.2;rw[ag,iI] at aJ;omega)
   have L:=gF aD;have aU:=gF ag;have al:=gF (gK B (gK i k));have a3:=gF g;unfold AT.ptr at W L;rw[M.o] at aI;obtain⟨a5,az⟩:=nM (gC[c].b);rw[az] at W L;clear aD ag B aA aJ af ap C aC g k i az;go_wp2_with fail;refine L.o.mono ?_;rintro e a4 ⟨rfl,ay,aw⟩;have U:=gF (gK ay aw);clear ay aw L W a0 aI;go_wp2;go_roundw;case rel=>
    refine⟨c+1,oM,oQ,al.o.2.1.rv V.o.2 U.o.2,?_,nL al.o.2.2 U.o.2⟩;rw[aU.o,K8,iI, <-Nat.add_assoc];exact U.o.1
   case measure=>simp[intOf];omega
  obtain rfl:c=n:=oM
  have aB:gC.take c=gC:=ft (by rw[M.o];exact eU _);rw[aB] at g;have aj:=gF (gK g k);clear g k i C aB;go_wp2;refine fg (v:= .tuple #[]) (by simp[fB,results73,go_sem]) rfl ?_;obtain⟨E,p,D,q,R⟩:=N.o;refine⟨rfl,?_,aj.o.2⟩;rw[R,E,p, <-Nat.add_assoc];have aZ:lW f (d::((gC.map AT.nd).map Nd.pre).flatten)=lW aq ((gC.map AT.nd).map Nd.pre).flatten:=by rw[<-J.o.2.2.2, <-q, <-D];rfl
  rw[aZ];exact aj.o.1
theorem sF (look:List UInt8->Option Int) (n:Nd) (p:kq):l7 look n p=match lB look n.gC p with
  | none=>eD
  | some (gC,q)=>match look (iy (.mk n.ps gC 0)) with
   | some g=>ez (.mk n.ps gC g,q)
   | none=>match q.free with
    | []=>eD
    | g::r=>ez (.mk n.ps gC g,⟨r,q.ws++[⟨g,bs (iy (.mk n.ps gC 0))⟩]⟩):=by
 cases n;rw[l7];rfl
def oH (look:List UInt8->Option Int) (p:kq):Prop:=(∀s g,look s=ez g->0<=g/\g<=1000000)/\ ∀g∈p.free,0<=g/\g<=1000000
theorem zo {look:List UInt8->Option Int} {e:List Nd} (u: ∀k∈e,∀p j q,l7 look k p=ez (j,q)->j.er=k.er/\(∀g∈q.free,g∈p.free)/\(oH look p->0<=j.page/\j.page<=1000000)):
  ∀{p:kq} {i:List Nd} {q:kq},lB look e p=ez (i,q)->i.map Nd.er=e.map Nd.er/\(∀g∈q.free,g∈p.free)/\(oH look p-> ∀k∈i,0<=k.page/\k.page<=1000000):=by
 induction e with
 | nil=>intro p i q h;rw[lB] at h;simp only[ey,eB] at h;obtain⟨rfl,rfl⟩:=h;exact⟨rfl,fun g c=>c,fun _ k D=>by cases D⟩
 | cons k e F=>intro p i q h;rw[lB] at h;split at h;cases h;rename_i H I C;obtain⟨⟨G,J⟩,E,s⟩:=eV.1 h;simp only[eB] at s;obtain⟨rfl,rfl⟩:=s;obtain⟨v,m,y⟩:=u k oC _ _ _ C;obtain⟨z,A,B⟩:=F (fun x d=>u x (by simp[d])) E;refine⟨by rw[eL,eL,v,z],fun g c=>m g (A g c),fun l x d=>?_⟩;rcases j4.1 d with rfl|d;exact y l;exact B ⟨l.1,fun g c=>l.2 g (m g c)⟩ x d
theorem uT {look:List UInt8->Option Int}: ∀(n:Nd) (p:kq) (c:Nd) (q:kq),l7 look n p=ez (c,q)->c.er=n.er/\(∀g∈q.free,g∈p.free)/\(oH look p->0<=c.page/\c.page<=1000000):=by
 intro n
 induction n using Nd.ind with
 | h k y A v=>
  intro p c q h;rw[sF] at h;simp only[Nd.gC,Nd.ps] at h;split at h;cases h;rename_i z C m;obtain⟨l,d,B⟩:=zo v m;have i: ∀g,(Nd.mk k z g).er=(Nd.mk k y A).er:=fun g=>by rw[Nd.jJ,Nd.jJ];simp only[Nd.ps,Nd.gC];rw[l]
  split at h;rename_i g s;simp only[ey,eB] at h;obtain⟨rfl,rfl⟩:=h;exact⟨i g,d,fun e=>e.1 _ _ s⟩;split at h;cases h;rename_i g r j;simp only[ey,eB] at h;obtain⟨rfl,rfl⟩:=h;exact⟨i g,fun x u=>d x (by rw[j];simp[show x∈r from u]),fun e=>e.2 g (d g (by rw[j];simp))⟩
theorem EU (look:List UInt8->Option Int): ∀(a b:List Nd) (p:kq),lB look (a++b) p=(lB look a p).bind fun x=>(lB look b x.2).map fun y=>(x.1++y.1,y.2)
 | [],b,p=>by rw[lB,List.nil_append];simp
 | k::a,b,p=>by
  rw[List.cons_append,lB,lB];cases h:l7 look k p with
  | none=>rfl
  | some x=>
   obtain⟨n,q⟩:=x;simp only;rw[EU look a b q];cases lB look a q with
   | none=>rfl
   | some y=>
    simp only[Option.bind_some,e6];cases lB look b y.2 with
    | none=>rfl
    | some c=>rfl
theorem zq {look:List UInt8->Option Int} {c:List Nd} (g: ∀k∈c,∀p s q,l7 look k p=ez (s,q)->q.ws.length<=p.ws.length+k.pre.length):
  ∀{p:kq} {d:List Nd} {q:kq},lB look c p=ez (d,q)->q.ws.length<=p.ws.length+(c.map Nd.pre).flatten.length:=by
 induction c with
 | nil=>intro p d q h;rw[lB] at h;simp only[ey,eB] at h;obtain⟨rfl,rfl⟩:=h;simp
 | cons k c m=>intro p d q h;rw[lB] at h;split at h;cases h;rename_i z A i;obtain⟨⟨y,B⟩,j,e⟩:=eV.1 h;simp only[eB] at e;obtain⟨rfl,rfl⟩:=e;have u:=g k oC _ _ _ i;have v:=m (fun x l=>g x (by simp[l])) j;rw[eL,fD,iI];omega
theorem wk {look:List UInt8->Option Int}: ∀(n:Nd) (p:kq) (c:Nd) (q:kq),l7 look n p=ez (c,q)->q.ws.length<=p.ws.length+n.pre.length:=by
 intro n
 induction n using Nd.ind with
 | h l i k e=>intro p c q h;rw[sF] at h;rw[Nd.jy,j1];simp only[Nd.gC,Nd.ps] at h |-;split at h;cases h;rename_i j m d;have g:=zq e d;split at h;simp only[ey,eB] at h;obtain⟨rfl,rfl⟩:=h;omega;split at h;cases h;simp only[ey,eB] at h;obtain⟨rfl,rfl⟩:=h;simp only[iI,j1,eN];omega
structure se (w:eR) (gM pb kb ub kn:Nat) (f:ByteArray->Option Int) (fo:Option Addr) (fc:Nat) (tv:fa) (un:Nat) (p:kq) (used:List Int):Prop where
 box:Bx w pb #[.map (ez kb), gE fo p.free.length fc,tv, .map (ez ub)] 121
 known:lV w kb kn f
 fr:lp (· <gM) w fo p.free
 fs:jk fo p.free.length fc
 tk:w.ownsRow gM 80 2 tv p.ws.length (mi p.ws)
 us:kx w ub un used
 ui:gM<=pb
 wm:gM<=ub
 wq:kb≠ub
 sz: ∀x∈p.ws,x.data.size<=1000
theorem gS.trans' {L M:List Nat} {c B C:eR} (h:gS L c B) (k:gS M B C) (j: ∀y∈M,y∈L\/c.heap.size<=y):gS L c C:=
 ⟨k.1.trans h.1,k.2.1.trans h.2.1,k.2.2.1.trans h.2.2.1,jU h.2.2.2.1 k.2.2.2.1,fun b e g=>(k.2.2.2.2 b (iU e h.2.2.2.1) (fun i=>by
  rcases j b i with d|d;. exact g d
  . omega)).trans (h.2.2.2.2 b e g)⟩
theorem lp.kept {gM:Nat} {w w':eR} {o:Option Addr} {l:List Int} {L:List Nat} (h:lp (· <gM) w o l) (k:gS L w w') (e: ∀y∈L,gM<=y) (g:gM<=w.heap.size):lp (· <gM) w' o l:=fun p j=>by
 obtain⟨b,q,d,i,c⟩:=h p j;refine⟨b,q,d,?_,c⟩;rw[cell_of_block (k.2.2.2.2 b (iU c g) fun m=>by have:=e b m;omega)];exact i
theorem se.apart {w:eR} {gM i kb u E:Nat} {f:ByteArray->Option Int} {C:Option Addr} {B:Nat} {s:fa} {G:Nat} {p:kq} {used:List Int} (h:se w gM i kb u E f C B s G p used) {t:AT} (m:h9 gM w t):
  i∉t.fp/\kb∉t.fp/\u∉t.fp/\(∀g,s.ownBlock=ez g->g∉t.fp)/\i≠kb/\i≠u/\(∀g,s.ownBlock=ez g->g≠i/\g≠kb/\g≠u):=by
 have k:=h.box;unfold Bx at k;obtain⟨M,I,l⟩:=h.known.obj;obtain⟨N,J,q⟩:=h.us.obj;have z: ∀g,s.ownBlock=ez g-> ∃v,w.heap[g]?=ez (.cells v 80 (0,0)):=fun g e=>by
  rcases h.tk.2 with⟨rfl,_⟩|⟨g',H,L,rfl,_,c,_⟩;simp[eF] at e;have:g=g':=by have h:=e;simp[eF] at h;exact h.symm
  subst this;exact⟨_,c⟩
 refine⟨fun y=>?_,m.qs ⟨_,_,l⟩,m.qs ⟨_,_,q⟩,fun g e y=>?_,?_,?_,fun g e=>?_⟩;focus obtain⟨v,F,D,j,d⟩:=m.cells i y;rw[k] at j
 rotate_left;focus obtain⟨v,F,D,j,d⟩:=m.cells g y;obtain⟨A,c⟩:=z g e;rw[c] at j
 rotate_left;rintro rfl;rw[k] at l;cases l;rintro rfl;rw[k] at q;cases q;obtain⟨A,c⟩:=z g e;refine⟨?_,?_,?_⟩;rintro rfl;rw[k] at c;simp only[ey,Obj.cells.injEq] at c;exact absurd c.2.1 oF;rintro rfl;rw[l] at c;cases c;rintro rfl;rw[q] at c;cases c;all_goals simp only[ey,Obj.cells.injEq] at j;rcases d with d|d|d<;>rw[<-j.2.1] at d<;>exact absurd d oF
theorem zr {w w':eR} {gM k n:Nat} {e:TypeId} {v:fa} {xs:List fa} {L:List Nat} (h:w.ownsRow gM e k v n xs) (hK:gS L w w') (p: ∀g,v.ownBlock=ez g->g∉L):w'.ownsRow gM e k v n xs:=by
 refine⟨h.1,?_⟩;rcases h.2 with h|⟨g,d,i,j,l,c,m⟩;exact .inl h;subst j;exact .inr ⟨g,d,i,rfl,l,(hK.2.2.2.2 g (fq.1 c).1 (p g rfl)).trans c,m⟩
theorem se.keep {w w':eR} {gM d kb c k:Nat} {f:ByteArray->Option Int} {j:Option Addr} {i:Nat} {e:fa} {l:Nat} {p:kq} {used:List Int} (h:se w gM d kb c k f j i e l p used) {L:List Nat} (hK:gS L w w')
  (v: ∀y∈L,gM<=y) (z:gM<=w.heap.size) (m:d∉L) (q:kb∉L) (s:c∉L) (u: ∀g,e.ownBlock=ez g->g∉L):se w' gM d kb c k f j i e l p used:=
 ⟨hK.bx h.box m,h.known.same (hK.2.2.2.2 kb h.known.lt q),h.fr.kept hK v z,h.fs,zr h.tk hK u,h.us.same (hK.2.2.2.2 c h.us.lt s),h.ui,h.wm,h.wq,h.sz⟩
def EW (gM pb kb ub kn:Nat) (f:ByteArray->Option Int) (t:AT) (tv:fa) (un:Nat) (used:List Int) (o:Option (Nd×kq)) (w:eR) (e:Ending) (w':eR):Prop:=
 gS (pb::ub::(tv.ownBlock.toList++t.fp)) w w'/\((o=eD/\e= .returned (ht eP))\/
  ∃n' q t' La Lb EX,o=ez (n',q)/\e= .returned (ht eY)/\t'.b=t.b/\t'.fp=t.fp/\t'.nd=n'/\h9 gM w' t'/\se w' gM pb kb ub kn f La Lb EX (un+t.nd.pre.length) q (used++n'.je.map Nd.page)/\ ∀g,EX.ownBlock=ez g->tv.ownBlock=ez g\/w.heap.size<=g)
theorem Nd.sS (n:Nd):n.je=(n.gC.map Nd.je).flatten++[n]:=by
 cases n with|mk ps ks g=>
  have: ∀c:List Nd,Nd.oA c=(c.map Nd.je).flatten:=by
   intro c
   induction c with
   | nil=>rfl
   | cons x c d=>rw[Nd.oA,d];rfl
  rw[Nd.je,this];rfl
theorem kM.rO {n:Nd} (h:kM n) (e: ∀k∈n.gC,0<=k.page/\k.page<=1000000):lC n:=by
 cases h with
 | lf q l m i c=>exact .inl ⟨rfl,i,c⟩
 | mD p l g j c=>exact .inr ⟨g,j,fun k d=>⟨(c k d).first,(c k d).ie,(e k d).1,(e k d).2⟩⟩
theorem Lc (gM pb kb l aP:Nat) (f:ByteArray->Option Int): ∀(t:AT) (w:eR) (co:Option Addr) (cn:Nat) (H:fa) (ae:Nat) (p:kq) (used:List Int) (ca cb aS:Nat),1<=ca->2<=cb->Tm ca cb aS t.nd->h9 gM w t->t.fp.Nodup->se w gM pb kb l aP f co cn H ae p used->
  oH (fun s=>f (bs s)) p->gM<=w.heap.size->ae+t.nd.pre.length<=1000000->p.ws.length+t.nd.pre.length<=1000000->
  fi eK 76 #[hA (ez ⟨pb,0,eD⟩),t.ptr] w (EW gM pb kb l aP f t H ae used (l7 (fun s=>f (bs s)) t.nd p) w):=by
 intro t
 induction t using AT.ind with
 | h b k dt j gC page ds=>
 intro w co cn H ae p used ca cb aS dh di Y h W ag ao ar aM aN;obtain⟨eo,cq⟩:=nM (EW gM pb kb l aP f (.mk b k dt j gC page) H ae used (l7 (fun s=>f (bs s)) (AT.mk b k dt j gC page).nd p) w);rw[cq];have cf:=gF cq;obtain⟨aV,aW,am,aX,be,aY,bf⟩:=ag.apart h;have E:=h.hx;have bZ:=h.hk;have aa:=h.hc;simp only[AT.b,AT.pv,AT.kv,AT.gC,AT.page] at E bZ aa;simp only[AT.ptr,AT.b];obtain⟨A,ck,ee⟩:=bZ.lit;subst ee;obtain⟨n,cx⟩:=nM gC.length;obtain⟨R,bb⟩:=E.c2;unfold gX at R;have d4:gC.length<=8:=by have:=(Y.qN dh di).oa;rw[AT.gT,eE] at this;exact this
 rw[cx] at R d4;have dw:=gF ds;obtain⟨ec,da,dn,dp,dq⟩:=info_parts tz;have bH:=gF (gK da (gK dn (gK dp dq)));clear da dn dp dq;have aZ:=gF (gK h (gK W (gK ag (gK ao (gK ar (gK aM (gK aN Y)))))));have bG:=gF (gK aV (gK aW (gK am (gK aX (gK be (gK aY bf))))));have P:=gF cx;clear ds h W ag ao ar aM aN Y aV aW am aX be aY bf E bZ aa cx cq;go_enter func76,ntmps76;go_wp2;clear R bb
 go_loopw [15] (fun ac wr=> ∃(e:Nat) (Kd:List AT) (dO:Option Addr) (dM:Nat) (du:fa) (m:kq),e<=n/\ac= .int .i64 e/\Bx wr b (gX gC.isEmpty k (gE A n ck) page) 129/\
  Hid (Kd.length=e/\lB (fun s=>f (bs s)) (gC.map AT.nd) p=(lB (fun s=>f (bs s)) ((gC.drop e).map AT.nd) m).map (fun x=>(Kd.map AT.nd++x.1,x.2))/\(∀s∈Kd++gC.drop e,h9 gM wr s)/\Kd.map AT.ptr=(gC.take e).map AT.ptr/\Kd.map AT.fp=(gC.take e).map AT.fp/\Kd.map (fun s=>s.nd.er)=(gC.take e).map (fun s=>s.nd.er)/\(∀s∈Kd,0<=s.nd.page/\s.nd.page<=1000000))/\
  Hid (se wr gM pb kb l aP f dO dM du (ae+(((gC.take e).map AT.nd).map Nd.pre).flatten.length) m (used++((Kd.map AT.nd).map Nd.je).flatten.map Nd.page)/\oH (fun s=>f (bs s)) m/\m.ws.length<=p.ws.length+(((gC.take e).map AT.nd).map Nd.pre).flatten.length)/\
  Hid ((∀g,du.ownBlock=ez g->H.ownBlock=ez g\/w.heap.size<=g)/\gS (pb::l::(H.ownBlock.toList++(AT.mk b k (gE A gC.length ck) j gC page).fp)) w wr/\
   gW wr gM 88 1 (gE A gC.length ck) gC.length (gC.map AT.ptr)/\gW wr gM 77 2 k j.length (gV j))) (fun ac _=>n - (intOf ac).toNat)
 case atStart=>obtain⟨h,W,ag,ao,ar,aM,aN,Y⟩:=aZ.o;refine⟨0,[],co,cn,H,p,oM,rfl,by rw[<-P.o];exact h.hx,gF ⟨rfl,oC,fun s z=>h.hc s (show s∈gC by simpa using z),rfl,rfl,rfl,fun s z=>by cases z⟩,gF ⟨by simpa using ag,ao,oM⟩,gF ⟨fun g a6=> .inl a6,gS.refl _ _,h.hk,h.hp⟩⟩
 case round=>
  obtain⟨e,Kd,dP,uU,I,m,bZ,rfl,E,bE,ce,bF⟩:=hrel;obtain⟨R,bb⟩:=E.c2;unfold gX at R
  by_cases dd:e<n
  .
   have V:e<gC.length:=by rw[P.o];exact dd
   obtain⟨aQ,X,ad,ay,ak,az,aR⟩:=bE.o;obtain⟨aA,al,bB⟩:=ce.o;obtain⟨aB,aC,aD,bd⟩:=bF.o;obtain⟨h,W,ag,ao,ar,aM,aN,Y⟩:=aZ.o;obtain⟨g,L,bK,bJ,db,a6⟩:=qH aD V;have d1:=(aD.lt g a6).2;obtain⟨rfl,rfl⟩:ez ⟨g,0,eD⟩=A/\L=ck:=by have h:=bK;simp at h;exact⟨h.1.symm,h.2.symm⟩
   have a8:gC[e]∈gC:=List.getElem_mem V;have T:gC.drop e=gC[e]::gC.drop (e+1):=e5 V;obtain⟨v,aw⟩:=nM (gC[e]);have aL:(((gC.take (e+1)).map AT.nd).map Nd.pre).flatten=(((gC.take e).map AT.nd).map Nd.pre).flatten++v.nd.pre:=by rw[eZ V,eC,eC,e3,aw];simp
   have dc:(((gC.take (e+1)).map AT.nd).map Nd.pre).flatten.length<=((gC.map AT.nd).map Nd.pre).flatten.length:=by
    have:gC.map AT.nd=(gC.take (e+1)).map AT.nd++(gC.drop (e+1)).map AT.nd:=by rw[<-eC,e9]
    rw[this,eC,e3,iI];omega
   have a':(AT.mk b k (gE (ez ⟨g,0,eD⟩) gC.length L) j gC page).nd.pre.length=1+((gC.map AT.nd).map Nd.pre).flatten.length:=by rw[Nd.jy,AT.gT,j1];simp only[AT.gC];omega
   rw[aL,iI] at dc;rw[aw] at a8 T bJ;have bv:Tm 2 4 (aS - 1) v.nd:=by
    cases aS with
    | zero=>have:=Y.px.1;rw[AT.gT,e2] at this;rw[show(AT.mk b k (gE (ez ⟨g,0,eD⟩) gC.length L) j gC page).gC=gC from rfl] at this;rw[this] at V;simp at V
    | succ aS=>exact Y.lK.2.2.2.2 _ (by rw[AT.gT];exact eM.2 ⟨v,a8,rfl⟩)
   have c7:v.fp.Nodup/\ ∀y∈v.fp,y∈(AT.mk b k (gE (ez ⟨g,0,eD⟩) gC.length L) j gC page).fp:=by have d9: ∀y∈v.fp,y∈AT.iO gC:=fun y d=>AT.iK.2 ⟨v,a8,d⟩;refine⟨?_,fun y d=>by rw[AT.fp];exact eQ _ (eA _ (eA _ (d9 y d)))⟩;have:=W;rw[AT.fp] at this;have cY:=(pN.1 this).1.2.2;rw[Bq gC V,sO,sD,aw] at cY;exact(eH.1 (eH.1 cY).2.1).1
   have c':=dw.o v a8 wr dP uU I _ m _ 2 4 (aS - 1) oF oF bv (ad v (by rw[T];simp)) c7.1 aA al (jU ar aC.2.2.2.1) oM oM;have bI:=gF c';unfold AT.ptr at bJ bI;obtain⟨aV,aW,am,aX,be,aY,bf⟩:=bG.o;have de:=h.lt;have bt:(AT.iO gC).Nodup/\b∉AT.iO gC/\g∉AT.iO gC/\ ∀y∈k.ownBlock.toList,y∉AT.iO gC:=by have:=W;rw[AT.fp] at this;obtain⟨⟨_,_,ei⟩,⟨_,_,cH⟩,_,dH,dI⟩:=pN.1 this;exact⟨ei,cH,dI g (by simp[eF]),dH⟩
   have b6: ∀y∈AT.iO gC,y∈(AT.mk b k (gE (ez ⟨g,0,eD⟩) gC.length L) j gC page).fp:=fun y d=>by rw[AT.fp];exact eQ _ (eA _ (eA _ d))
   have br: ∀y∈v.fp,y∈AT.iO gC:=fun y d=>AT.iK.2 ⟨v,a8,d⟩;have aq: ∀y∈(AT.mk b k (gE (ez ⟨g,0,eD⟩) gC.length L) j gC page).fp,y∉v.fp->y∉pb::l::(I.ownBlock.toList++v.fp):=fun y d ea q=>by simp only[j4,jD] at q;rcases q with c|c|c|c;exact aV (c▸d);exact am (c▸d);rcases aB y (by simpa using c) with c|c;exact aX y c d;have:=(de y d).2;omega;exact ea c
   have a4: ∀y∈pb::l::(I.ownBlock.toList++v.fp),y∈pb::l::(H.ownBlock.toList++(AT.mk b k (gE (ez ⟨g,0,eD⟩) gC.length L) j gC page).fp)\/w.heap.size<=y:=fun y q=>by simp only[j4,jD] at q |-;rcases q with c|c|c|c;exact .inl (.inl c);exact .inl (.inr (.inl c));rcases aB y (by simpa using c) with c|c;exact .inl (.inr (.inr (.inl (by rw[c];simp))));exact .inr c;exact .inl (.inr (.inr (.inr (b6 y (br y c)))))
   have b0:AT.iO gC=AT.iO (gC.take e)++(v.fp++AT.iO (gC.drop (e+1))):=by rw[<-sD, <-T, <-sO,e9]
   have cw:=bt.1;rw[b0] at cw;have ai:=eH.1 cw;have df:=eH.1 ai.2.1;have a9: ∀s∈Kd++gC.drop (e+1),∀y∈s.fp,y∈(AT.mk b k (gE (ez ⟨g,0,eD⟩) gC.length L) j gC page).fp/\y∉v.fp:=fun s z y d=>by rcases jD.1 z with z|z;obtain⟨el,aK,c⟩:=eM.1 (ak▸eM.2 ⟨s,z,rfl⟩:s.fp∈(gC.take e).map AT.fp);rw[<-c] at d;have D:y∈AT.iO (gC.take e):=AT.iK.2 ⟨el,aK,d⟩;exact⟨b6 y (by rw[b0];exact eO _ D),fun q=>ai.2.2 y D y (eO _ q) rfl⟩;have D:y∈AT.iO (gC.drop (e+1)):=AT.iK.2 ⟨s,z,d⟩;exact⟨b6 y (by rw[b0];exact eA _ (eA _ D)),fun q=>df.2.2 y q y D rfl⟩
   have bl:b∉pb::l::(I.ownBlock.toList++v.fp):=aq b (by rw[AT.fp];simp) fun q=>bt.2.1 (br b q);have bp:g∉pb::l::(I.ownBlock.toList++v.fp):=aq g (by rw[AT.fp];simp[eF]) fun q=>bt.2.2.1 (br g q);have bu: ∀y,k.ownBlock=ez y->y∉pb::l::(I.ownBlock.toList++v.fp):=fun y d=>aq y (by rw[AT.fp,d];simp) fun q=>bt.2.2.2 y (by rw[d];simp) (br y q);have cQ:=gF (gK a4 (gK aq (gK a9 (gK bl (gK bp (gK bu (gK aL (gK T (gK bv E)))))))));obtain⟨es,c1⟩:=nM v.b;rw[c1] at bJ bI;rw[P.o] at db;clear aQ X ad ay ak az aR aA al bB aB aC aD bd h W ag ao ar aM aN Y bK a6 a8 T aw aL dc a' bv c7 c' aV aW am aX be aY bf de bt b6 br aq a4 b0 cw ai df a9 bl bp bu E c1 V;go_wp2_with fail;refine bI.o.mono ?_;rintro c ep ⟨cZ,d8⟩;have a0:=gF cZ;clear cZ bI bJ d1 db;rcases d8 with⟨aj,rfl⟩|⟨eh,ek,cJ,dQ,dN,em,aj,rfl,bP,bU,aJ,b1,bO,b2⟩;. have dz:=gF aj;clear aj;go_wp2;rw[<-cf.o];obtain⟨a4,aq,a9,bl,bp,bu,aL,T,bv,E⟩:=cQ.o;obtain⟨aQ,X,ad,ay,ak,az,aR⟩:=bE.o;refine⟨bF.o.2.1.trans' a0.o a4, .inl ⟨?_,rfl⟩⟩;rw[sF,AT.gT];simp only[AT.gC];rw[X,T,eL,lB,dz.o];rfl
   have J:=gF (gK aj (gK bP (gK bU (gK aJ (gK b1 (gK bO b2))))));clear aj bP bU aJ b1 bO b2;go_wp2;go_roundw;case rel=>
    obtain⟨a4,aq,a9,bl,bp,bu,aL,T,bv,E⟩:=cQ.o;obtain⟨aQ,X,ad,ay,ak,az,aR⟩:=bE.o;obtain⟨aA,al,bB⟩:=ce.o;obtain⟨aB,aC,aD,bd⟩:=bF.o;obtain⟨aj,bP,bU,aJ,b1,bO,b2⟩:=J.o;obtain⟨dA,dB,dC⟩:=uT _ _ _ _ aj;have eq:=wk _ _ _ _ aj;have V:e<gC.length:=by rw[P.o];exact dd
    have cF:gC.take (e+1)=gC.take e++[v]:=by rw[eZ V];have:=e5 V;rw[T] at this;rw[<-(List.cons.inj this).1]
    refine⟨e+1,Kd++[cJ],dQ,dN,em,ek,oM,oQ,a0.o.bx E bl,gF ⟨by simp[aQ],?_,?_,?_,?_,?_,?_⟩,gF ⟨?_,⟨al.1,fun g a6=>al.2 g (dB g a6)⟩,?_⟩,gF ⟨?_,aC.trans' a0.o a4,aD.iE a0.o (fun y d=>by rw[oG d];exact bp),bd.iE a0.o bu⟩⟩;rw[X,T,eL,lB,aj];simp only;rw[Option.map_map];congr 1;funext x;simp[aJ];intro s z;have aK:s=cJ\/s∈Kd++gC.drop (e+1):=by simp only[jD,lx] at z |-;rcases z with (h|h)|h;exact .inr (.inl h);exact .inl h;exact .inr (.inr h)
    rcases aK with rfl|aK;exact b1;refine(ad s ?_).iE a0.o fun y d=>aq y (a9 s aK y d).1 (a9 s aK y d).2;rcases jD.1 aK with h|h;exact eO _ h;exact eA _ (by rw[T];exact eQ _ h);rw[cF,eC,eC,ay];simp[AT.ptr,bP];rw[cF,eC,eC,ak];simp[bU];rw[cF,eC,eC,az];simp[aJ,dA];intro s z;rcases jD.1 z with h|h;exact aR s h;rw[lx.1 h,aJ];exact dC al;have bK:ae+(((gC.take (e+1)).map AT.nd).map Nd.pre).flatten.length=ae+(((gC.take e).map AT.nd).map Nd.pre).flatten.length+v.nd.pre.length:=by rw[aL,iI];omega
    have dK:used++(((Kd++[cJ]).map AT.nd).map Nd.je).flatten.map Nd.page=used++((Kd.map AT.nd).map Nd.je).flatten.map Nd.page++eh.je.map Nd.page:=by simp[aJ]
    rw[bK,dK];exact bO;rw[aL,iI];omega;intro y d;rcases b2 y d with h|h;exact aB y h;exact .inr (jU aC.2.2.2.1 h)
   case measure=>simp[intOf];omega
  obtain rfl:e=n:=oM
  obtain⟨aQ,X,ad,ay,ak,az,aR⟩:=bE.o;obtain⟨aA,al,bB⟩:=ce.o;obtain⟨aB,aC,aD,bd⟩:=bF.o;obtain⟨h,W,ag,ao,ar,aM,aN,Y⟩:=aZ.o;have c9:gC.take e=gC:=ft (by rw[P.o];exact eU _);have c4:gC.drop e=[]:=e8 (by rw[P.o];exact eU _);rw[c9] at ay ak az aA bB;rw[c4] at X ad;rw[e4,lB,e6] at X;simp only[eT] at X ad;have aI:Kd.length=gC.length:=by rw[aQ,P.o]
  have c3:Kd.isEmpty=gC.isEmpty:=by
   cases hK:Kd with
   | nil=>rw[hK] at aI;have:gC=[]:=eW aI.symm;rw[this]
   | cons x ev=>rw[hK] at aI;cases d2:gC with
    | nil=>rw[d2] at aI;simp at aI
    | cons=>rfl
  obtain⟨t1,B⟩:=nM (AT.mk b k (gE A gC.length ck) j Kd page);have ab:h9 gM wr t1:=by rw[<-B];exact .mk _ _ _ _ _ _ h.hb (by rw[c3,P.o];exact E) bd (by rw[aI,ay];exact aD) ad
  have c5:t1.nd.er=(AT.mk b k (gE A gC.length ck) j gC page).nd.er:=by rw[<-B,mo,mo,az]
  have dj:Tm ca cb aS t1.nd:=Tm.lT.1 (c5▸Tm.lT.2 Y);have ai:t1.nd= .mk j (Kd.map AT.nd) page:=by rw[<-B,AT.pB];rfl
  have cz:lC t1.nd:=(dj.qN dh di).rO fun x E=>by rw[ai] at E;obtain⟨s,z,rfl⟩:=eM.1 E;exact aR s z
  have cu:=DV gM t1 wr ab cz;have dg:t1.ptr= hA (ez ⟨b,0,eD⟩):=by rw[<-B];rfl
  obtain⟨C,b5⟩:=nM (bs (iy t1.nd));rw[dg,b5] at cu;have cE:C.size<=1000:=by rw[<-b5,lM];have:=BC cz;unfold iy jg;rw[iI,fx];omega
  have U:t1.fp=(AT.mk b k (gE A gC.length ck) j gC page).fp:=by rw[<-B,AT.fp,AT.fp,AT.oD,AT.oD,ak]
  have dX:b∈t1.fp:=by rw[U,AT.fp];simp
  have a':(AT.mk b k (gE A gC.length ck) j gC page).nd.pre.length=1+((gC.map AT.nd).map Nd.pre).flatten.length:=by rw[Nd.jy,AT.gT,j1];simp only[AT.gC];omega
  have cB:l7 (fun s=>f (bs s)) (AT.mk b k (gE A gC.length ck) j gC page).nd p=match f C with
    | some g=>ez (.mk j (Kd.map AT.nd) g,m)
    | none=>match m.free with
     | []=>eD
     | g::r=>ez (.mk j (Kd.map AT.nd) g,⟨r,m.ws++[⟨g,C⟩]⟩):=by
   rw[sF,AT.gT,AT.jb];simp only[AT.gC,AT.ps];rw[X];simp only;have c:iy (.mk j (Kd.map AT.nd) 0)=iy t1.nd:=by rw[ai];rfl
   rw[c,b5];all_goals (cases f C<;>first|rfl| (cases m.free<;>rfl))
  obtain⟨rP,bw⟩:=nM (used++((Kd.map AT.nd).map Nd.je).flatten.map Nd.page);obtain⟨aT,b8⟩:=nM (ae+((gC.map AT.nd).map Nd.pre).flatten.length);rw[bw,b8] at aA;have cG:aT+1<=1000000/\m.ws.length+1<=1000000:=⟨oM,oM⟩;have cS:=gF cu;have F:=gF (gK ab (gK cE (gK cB (gK U (gK ai (gK bw (gK b8 (gK a' (gK B cG)))))))));have cg:=gF (gK aA al);have bg:=gF (gK aB aC);clear aQ X ad ay ak az aR aA al bB aB aC aD bd h W ag ao ar aM aN Y c9 c4 aI c3 ab c5 dj ai cz cu dg b5 cE U dX a' cB bw b8 cG B E;go_wp2_with fail;refine cS.o.mono ?_;rintro c W1 ⟨rfl,a5⟩;have bR:gM<=wr.heap.size:=jU aZ.o.2.2.2.2.1 bg.o.2.2.2.2.1;have i:=cg.o.1.keep ((gS.refl [] wr).ic a5) oC bR oC oC oC oC;have ab:=F.o.1.ij a5;have bN:gS (pb::l::(H.ownBlock.toList++(AT.mk b k (gE A gC.length ck) j gC page).fp)) w W1:=bg.o.2.ic a5;have cK:=i.box;have a7:=K7 i.known C (by have:=F.o.2.1;unfold ff;omega);have aO:=ab.hx;have B:=F.o.2.2.2.2.2.2.2.2.1;rw[<-B] at aO;simp only[AT.b,AT.pv,AT.kv,AT.gC,AT.page] at aO;rw[P.o] at aO;clear R bb cS;obtain⟨R,bb⟩:=aO.c2;unfold gX at R;obtain⟨a1,b',bL⟩:=cK.c3;have cW:=aO.free;have J:=gF (gK i (gK ab (gK bN bR)));have ci:=gF a5;have dW:b≠pb:=fun c=>bG.o.1 (by rw[<-c,AT.fp];simp);have d6:pb≠b:=fun c=>dW c.symm;cases av:f C
  case' some g=>
   rw[av] at a7;simp only[fz,Option.isSome_some] at a7;have cj:=gF av;have ch:=gF i;have cl:=gF ab;have cP:=gF bN;have cU:=gF bg.o.1;have cT:Hid (ny g):=gF (by
    have:=cg.o.2.1 C.data.toList g (by simp only;rw[pz];exact av);exact⟨oM,oM⟩)
   have cV:Hid (l7 (fun s=>f (bs s)) (AT.mk b k (gE A gC.length ck) j gC page).nd p=ez (.mk j (Kd.map AT.nd) g,m)):=gF (by rw[F.o.2.2.1,av]);clear i ab bN bR cK aO B a5 av;go_upto_region 15 with fail
   clear a7;obtain⟨Wc,rfl⟩:=nP W1
  case' none=>
   rw[av] at a7;simp only[Option.getD_none,Option.isSome_none] at a7;have cj:=gF av;obtain⟨dR,bV⟩:=nM m.free;rw[bV] at a1;have bo:=i.fs;have bn:=i.fr;rw[bV] at bo bn;have bh:=gF bV;clear i ab bN bR cK aO B a5 av bV;cases dR
   case' nil=>clear bo bn;go_wp2;rw[<-cf.o];refine⟨J.o.2.2.1, .inl ⟨?_,rfl⟩⟩;rw[F.o.2.2.1,cj.o,bh.o]
   case' cons g r=>
    obtain⟨M,O,rfl,cs,cv⟩:=bn 0 oC;rw[fv] at cs;simp only[fu] at cs;have d0:M<W1.heap.size:=iU cv (jU J.o.2.2.2 ci.o.size);have c6:r.length+1<=uU:=by rcases bo with⟨h,_⟩|⟨_,_,h,_⟩<;>simp_all
    obtain⟨cI,cC⟩:=nM r.length;simp only[j1,cC] at a1 c6;have an:=gF (gK cC (gK bo (gK bn cv)));clear bo bn cv cC;have c8: ∀cm,lp (· <gM) cm (ez ⟨M,O,eD⟩) (g::r)->lp (· <gM) cm (ez ⟨M,O+1,eD⟩) r:=fun cm h ac bq=>by
     obtain⟨dD,o',c,aa,z⟩:=h (ac+1) (by simpa using bq);obtain⟨rfl,rfl⟩:M=dD/\O=o':=by simpa using c
     exact⟨M,O+1,rfl,by rw[show O+1+ac=O+(ac+1) by omega];simpa using aa,z⟩
    have dy:=gF c8;clear c8
    by_cases dZ:uU=1
    case' pos=>
     subst dZ;obtain rfl:cI=0:=oM
     go_upto_region 14 with fail
     have i:=J.o.1;obtain⟨W2,ah⟩:=nM (W1.setCell ⟨pb,1,eD⟩ (gE (ez ⟨M,O,eD⟩) 0 0));rw[ah];have N:gS [pb] W1 W2:=by rw[<-ah];exact(gS.refl _ W1).set oC
     have bm:gM<=W1.heap.size:=jU J.o.2.2.2 ci.o.size;obtain⟨aU,bC,bD,aF,aG,aH,Z⟩:=i.apart J.o.2.1;have U:=F.o.2.2.2.1;obtain⟨bc,a2,u⟩: ∃bc a2,se W2 gM pb kb l aP f (ez ⟨M,bc,eD⟩) a2 I aT ⟨r,m.ws⟩ rP:=by
      refine⟨O,0,?_⟩;have au:=i.box.set 1 (gE (ez ⟨M,O,eD⟩) 0 0);rw[ah] at au;have bW:=i.fr.kept N (by simpa using i.ui) bm;rw[bh.o] at bW;refine⟨by rw[an.o.1];exact au,i.known.same (N.2.2.2.2 kb i.known.lt (by simpa using fun c:kb=pb=>aG c.symm)),?_,?_,zr i.tk N (fun y d=>by simpa using (Z y d).1),i.us.same (N.2.2.2.2 l i.us.lt (by simpa using fun c:l=pb=>aH c.symm)),i.ui,i.wm,i.wq,i.sz⟩;. (rw[eW an.o.1];intro ac bq;simp at bq)
      exact .inr ⟨_,rfl,by show r.length<=0;rw[an.o.1];exact eU 0,by unfold ff;omega⟩
    case' neg=>
     go_upto_region 14 with fail
     have i:=J.o.1;obtain⟨W2,ah⟩:=nM (W1.setCell ⟨pb,1,eD⟩ (gE (ez ⟨M,(O+1),eD⟩) cI (uU - 1)));rw[ah];have N:gS [pb] W1 W2:=by rw[<-ah];exact(gS.refl _ W1).set oC
     have bm:gM<=W1.heap.size:=jU J.o.2.2.2 ci.o.size;obtain⟨aU,bC,bD,aF,aG,aH,Z⟩:=i.apart J.o.2.1;have U:=F.o.2.2.2.1;obtain⟨bc,a2,u⟩: ∃bc a2,se W2 gM pb kb l aP f (ez ⟨M,bc,eD⟩) a2 I aT ⟨r,m.ws⟩ rP:=by refine⟨(O+1),uU - 1,?_⟩;have au:=i.box.set 1 (gE (ez ⟨M,(O+1),eD⟩) cI (uU - 1));rw[ah] at au;have bW:=i.fr.kept N (by simpa using i.ui) bm;rw[bh.o] at bW;refine⟨by rw[an.o.1];exact au,i.known.same (N.2.2.2.2 kb i.known.lt (by simpa using fun c:kb=pb=>aG c.symm)),?_,?_,zr i.tk N (fun y d=>by simpa using (Z y d).1),i.us.same (N.2.2.2.2 l i.us.lt (by simpa using fun c:l=pb=>aH c.symm)),i.ui,i.wm,i.wq,i.sz⟩;exact dy.o _ bW;exact(by rcases an.o.2.1 with⟨h,_⟩|⟨a,c,D,a3⟩;cases h;exact .inr ⟨_,rfl,by have cp:r.length+1<=uU:=D;show r.length<=uU - 1;omega,oM⟩)
    all_goals
     have ap:h9 gM W2 t1:=J.o.2.1.iE N (fun y d h=>aU (by rw[<-lx.1 h];exact d));have bj:gS (pb::l::(H.ownBlock.toList++(AT.mk b k (gE A gC.length ck) j gC page).fp)) w W2:=by rw[<-ah];exact J.o.2.2.1.set oC
     have cc:=u.box;have b9:=ap.hx;have B:=F.o.2.2.2.2.2.2.2.2.1;rw[<-B] at b9;simp only[AT.b,AT.pv,AT.kv,AT.gC,AT.page] at b9;rw[P.o] at b9;simp only[an.o.1] at cc;clear R bb cW a1 b' bL a7 cs d0;obtain⟨a1,b',bL⟩:=cc.c3;have b3:=u.tk.alloc (.cells #[.int .i64 g, ha C] 80);simp only at b3;have cN:Hid (∀dv∈[Value.int .i64 g,Value.string C],dv.oneCell'=eY):=gF (by intro dv dk;simp at dk;rcases dk with rfl|rfl<;>rfl)
     have cR:Hid (Bx (W2.alloc (.cells #[.int .i64 g, .string C] 80)) W2.heap.size [.int .i64 g, .string C].toArray 80):=gF (Bx.new W2 #[.int .i64 g, .string C] 80);have cL:=cc.alloc (.cells #[.int .i64 g, .string C] 80);have bS:gM<=W2.heap.size:=jU bm N.2.2.2.1;have eu:m.ws.length+1<=1000000:=F.o.2.2.2.2.2.2.2.2.2.2;have cO:=gF (gK u (gK ap (gK bj bS)));clear i ah N bm aU bC bD aF aG aH Z U u ap bj cc b9 B c6;go_upto_region 15 with (at_builtin;refine wpList_append_own_at _ rfl _ _ 23 rfl gM 80 ec _ 2 24 underlying23 bH.o.1 bH.o.2.1 bH.o.2.2.1 bH.o.2.2.2 rfl oF I m.ws.length (mi m.ws) rfl b3 ⟨W2.heap.size,0,eD⟩ 1 1 [.int .i64 g, .string C] rfl rfl (ua cR.o) cN.o (by unfold ff;omega) oM oN ?_;intro ew en b4 bX d5 dl;obtain⟨bA,bi,rfl⟩:=pD b4;have cd:=cL.grown bX fun c=>nu b3 cL oF c.symm;obtain⟨dE,ed,dL⟩:=cd.c3)
     obtain⟨Wc,bk⟩:=nM (en.setCell ⟨pb,2,eD⟩ (gE bA (m.ws.length+1) bi));rw[bk];obtain⟨u,ap,bj,bS⟩:=cO.o;obtain⟨aU,bC,bD,aF,aG,aH,Z⟩:=u.apart ap;have eb:=bX.size;have dr:(W2.alloc (.cells #[.int .i64 g, ha C] 80)).heap.size=W2.heap.size+1:=oC
     have dm: ∀y,(fl bA (m.ws.length+1) bi).ownBlock=ez y->I.ownBlock=ez y\/W2.heap.size+1<=y:=fun y d=>by rcases dl with h|h;exact .inl (by rw[<-h];exact d);exact .inr (by rw[dr] at h;rw[h] at d;cases d;exact eU _)
     have af:gS (pb::I.ownBlock.toList) W2 Wc:=by rw[<-bk];exact(((gS.refl _ W2).ic (Below.one W2 _)).pG bX fun y d=> .inl (by rw[d];simp)).set oC
     have bT: ∀y,y<W2.heap.size->y≠pb->(∀aE,I.ownBlock=ez aE->y≠aE)->y∉pb::I.ownBlock.toList:=fun y _ D a3 q=>by rcases j4.1 q with c|c;exact D c;exact a3 y (by simpa using c) rfl
     have S:h9 gM Wc t1:=ap.iE af fun y d=>bT y (ap.lt y d).2 (fun c=>aU (c▸d)) fun aE bz c=>aF aE bz (c▸d);have cr:se Wc gM pb kb l aP f (ez ⟨M,bc,eD⟩) a2 (gE bA (m.ws.length+1) bi) aT ⟨r,m.ws++[⟨g,C⟩]⟩ rP:=by
      have au:=cd.set 2 (gE bA (m.ws.length+1) bi);rw[bk] at au;refine⟨by simp only[an.o.1];exact au,u.known.same (af.2.2.2.2 kb u.known.lt (bT kb u.known.lt (fun c=>aG c.symm) fun aE bz c=>(Z aE bz).2.1 c.symm)),u.fr.kept af ?_ bS,u.fs,?_,u.us.same (af.2.2.2.2 l u.us.lt (bT l u.us.lt (fun c=>aH c.symm) fun aE bz c=>(Z aE bz).2.2 c.symm)),u.ui,u.wm,u.wq,?_⟩;intro y d;rcases j4.1 d with c|c;rw[c];exact u.ui;exact(u.tk.lt y (by simpa using c)).1;rw[<-bk];have c:mi (m.ws++[⟨g,C⟩])=mi m.ws++[.int .i64 g, ha C]:=by rw[Aq];rfl
      simp only[iI,j1,eN,c];exact oX b4 (a:=⟨pb,2,eD⟩) (nu b4 cd oF) _;intro y d;rcases jD.1 d with h|h;exact u.sz y h;rw[lx.1 h];exact F.o.2.1
     have c0:gS (pb::l::(H.ownBlock.toList++(AT.mk b k (gE A gC.length ck) j gC page).fp)) w Wc:=bj.trans' af fun y d=>by rcases j4.1 d with c|c;exact .inl (by rw[c];simp);rcases bg.o.1 y (by simpa using c) with h|h;exact .inl (by rw[h];simp);exact .inr h
     have ax:=S.hx;have B:=F.o.2.2.2.2.2.2.2.2.1;rw[<-B] at ax;simp only[AT.b,AT.pv,AT.kv,AT.gC,AT.page] at ax;rw[P.o] at ax;have cM:=cr.box;simp only[an.o.1] at cM;have ch:=gF cr;have cl:=gF S;have cP:=gF c0;have d':=cO.o.2.2.1.2.2.2.1;have cU:Hid (∀y,(fl bA (m.ws.length+1) bi).ownBlock=ez y->H.ownBlock=ez y\/w.heap.size<=y):=gF (fun y d=>by rcases dm y d with h|h;exact bg.o.1 y h;exact .inr oM)
     have cT:Hid (ny g):=gF (by
      have:=cg.o.2.2 g (by rw[bh.o];simp);exact⟨oM,oM⟩)
     have cV:Hid (l7 (fun s=>f (bs s)) (AT.mk b k (gE A gC.length ck) j gC page).nd p=ez (.mk j (Kd.map AT.nd) g,⟨r,m.ws++[⟨g,C⟩]⟩)):=gF (by rw[F.o.2.2.1,cj.o,bh.o]);clear a1 b' bL dE dL ed b3 cN cR cL b4 bX d5 dl cd u ap bj bS aU bC bD aF aG aH Z eb dr dm af bT S cr c0 B d' bk;obtain⟨R,bb,cW⟩:=ax.c3;unfold gX at R;obtain⟨a1,b',bL⟩:=cM.c3;clear ax cM
  all_goals
   have dx:Hid (kx (Wc.setCell ⟨b,3,eD⟩ (.int .i64 g)) l aT rP):=gF (ch.o.us.same (eS _ ⟨b,3,eD⟩ _ _ fun c=>bG.o.2.2.1 (by have dJ:l=b:=c;rw[dJ,AT.fp];simp)));have et:aT+1<=1000000:=F.o.2.2.2.2.2.2.2.2.2.1;go_wp2_with (first| (at_mapUpdate;refine DZ rfl _ _ _ rfl rfl dx.o (by unfold ff;omega) g cT.o rfl rfl ?_;intro W4 dV bY)|fail);rw[<-cf.o];obtain⟨ab,cE,cB,U,ai,bw,b8,a',B,cG⟩:=F.o;obtain⟨aV,aW,am,aX,be,aY,bf⟩:=bG.o;have G:=ch.o;have S:=cl.o;have af:=cP.o;have W:=aZ.o.2.1;have bQ:b∈(AT.mk b k (gE A gC.length ck) j gC page).fp:=by rw[AT.fp];simp
   have cy:t1.fp.Nodup:=by rw[U];exact W
   have b7:l∉t1.fp:=by rw[U];exact am
   rw[<-B] at S cy b7;have ax:=S.hx;have cA:=S.hp;have aw:=S.hk;have ct:=S.hc;simp only[AT.b,AT.pv,AT.kv,AT.ps,AT.gC,AT.page] at ax cA aw ct;rw[AT.fp] at cy;obtain⟨-,⟨ef,eg,cH⟩,-,-,-⟩:=pN.1 cy;have cD: ∀y,(y∈k.ownBlock.toList\/y∈(fl A gC.length ck).ownBlock.toList\/y∈AT.iO Kd)->y∈(AT.mk b k (gE A gC.length ck) j Kd page).fp:=fun y d=>by rw[AT.fp];simp only[j4,jD];exact .inr d
   have ba: ∀y,y<Wc.heap.size->y≠b->y≠l->W4.heap[y]?=Wc.heap[y]?:=fun y d D a3=>
    (bY.block y (by simpa using d) (by simpa using fun c=>a3 c)).trans (eS _ ⟨b,3,eD⟩ _ _ D)
   have d3:=S.lt;have dU:h9 gM W4 (.mk b k (gE A gC.length ck) j Kd g):=by
    refine .mk _ _ _ _ _ _ S.hb ?_ (cA.same fun y d=>?_) (aw.same fun y d=>?_) fun L aa=>(ct L aa).same fun y d=>?_;have:=ax.set 3 (.int .i64 g);exact this.grown bY (by simpa using fun c:b=l=>am (c▸bQ));have q:y∈k.ownBlock.toList:=by rw[d];simp
    exact ba y (cA.lt y d).2 (fun c=>ef (c▸q)) fun c=>b7 (c▸cD y (.inl q));have q:y∈(fl A gC.length ck).ownBlock.toList:=by rw[d];simp
    exact ba y (aw.lt y d).2 (fun c=>eg (c▸q)) fun c=>b7 (c▸cD y (.inr (.inl q)));have q:y∈AT.iO Kd:=AT.iK.2 ⟨L,aa,d⟩;exact ba y ((ct L aa).lt y d).2 (fun c=>cH (c▸q)) (fun c=>b7 (c▸cD y (.inr (.inr q))))
   have dT:gS (pb::l::(H.ownBlock.toList++(AT.mk b k (gE A gC.length ck) j gC page).fp)) w W4:=(af.set (by simp[bQ])).pG bY (fun r d7=> .inl (by cases d7;simp));have dY:gM<=Wc.heap.size:=jU aZ.o.2.2.2.2.1 af.2.2.2.1;obtain⟨-,-,-,aF,-,-,Z⟩:=G.apart cl.o;refine⟨dT, .inr ⟨.mk j (Kd.map AT.nd) g,_, .mk b k (gE A gC.length ck) j Kd g,_,_,_,cV.o,rfl,rfl,?_,?_,dU,⟨?_,?_,?_,G.fs,?_,?_,G.ui,G.wm,G.wq,G.sz⟩,cU.o⟩⟩;rw[<-U, <-B,AT.fp,AT.fp];rw[AT.pB];rfl;exact(G.box.jc (a:=⟨b,3,eD⟩) (fun c=>d6 c) _).grown bY (by simpa using fun c:pb=l=>aY c);exact G.known.same (ba kb G.known.lt (fun c=>aW (by rw[c];exact bQ)) G.wq);intro ac bq;obtain⟨cX,ej,c,aa,z⟩:=G.fr ac bq;refine⟨cX,ej,c,?_,z⟩;rw[cell_of_block (ba cX (iU z dY) (fun c=>by have:=(d3 b (by rw[AT.fp];simp)).1;omega) fun c=>by have:=G.wm;omega)];exact aa;refine⟨G.tk.1,?_⟩;rcases G.tk.2 with h|⟨bM,dF,dG,D,a3,cp,dS⟩;exact .inl h;exact .inr ⟨bM,dF,dG,D,a3,(ba bM (fq.1 cp).1 (fun c=>aF bM (by rw[D];rfl) (by rw[U,c];exact bQ)) fun c=>(Z bM (by rw[D];rfl)).2.2 c).trans cp,dS⟩;rw[a',show ae+(1+((gC.map AT.nd).map Nd.pre).flatten.length)=aT+1 by omega,Nd.sS];simp only[Nd.gC,eC,eL,e4, <-fj,bw];exact dV
def o6 (c:ju):List fa:=[ha c.key, ht c.lz, ht c.kp, ha c.old, ha c.new]
def kU (l:List ju):List fa:=(l.map o6).flatten
theorem Ld (l:List ju): ∀x∈l.map o6,x.length=5:=by
 intro x c;obtain⟨d,_,rfl⟩:=eM.1 c;rfl
theorem Le (l:List ju):(kU l).length=l.length * 5:=by
 unfold kU
 induction l with
 | nil=>rfl
 | cons d l c=>rw[eL,fD,iI,c,j1];simp[o6];omega
def oI (w:eR) (o:Option Addr) (l:List ju):Prop:=gO (· <w.heap.size) w o (kU l)
theorem oI.below {w w':eR} {o:Option Addr} {l:List ju} (h:oI w o l) (c:Below w.heap.size w w'):oI w' o l:=(gO.below h c).mono fun _ h=>iU h c.size
theorem oI.cell {w:eR} {o:Option Addr} {l:List ju} (h:oI w o l) {i:Nat} (q:i<l.length): ∃g c,o=ez ⟨g,c,eD⟩/\g<w.heap.size/\w.cell? ⟨g,c+i * 5,eD⟩=ez (ha l[i].key)/\w.cell? ⟨g,c+i * 5+1,eD⟩=ez (ht l[i].lz)/\
  w.cell? ⟨g,c+i * 5+2,eD⟩=ez (ht l[i].kp)/\w.cell? ⟨g,c+i * 5+3,eD⟩=ez (ha l[i].old)/\w.cell? ⟨g,c+i * 5+4,eD⟩=ez (ha l[i].new):=by
 have u:=Le l;obtain⟨g,c,rfl,-,p⟩:=h (i * 5) oM;have d: ∀r,r<5->w.cell? ⟨g,c+(i * 5+r),eD⟩=(o6 l[i])[r]?:=by
  intro r s;have e:i * 5+r<(kU l).length:=oM
  obtain⟨k,j8,j,m,-⟩:=h (i * 5+r) e;obtain⟨rfl,rfl⟩:g=k/\c=j8:=by simpa using j
  rw[m, <-eG e];unfold kU;rw[kL (Ld l) i r s,List.getElem?_map,eG q];rfl
 exact⟨g,c,rfl,p,d 0 oM,d 1 oM,d 2 oM,d 3 oM,d 4 oM⟩
def iC (l:List ju) (k:Nat):Option ju:=if k=0 then eD else l[k - 1]?
theorem EY {l:List ju} {k:Nat} (h:k<l.length):iD (iC l k) (l.drop k)=if iZ (iC l k) l[k]≠0 then iZ (iC l k) l[k] else iD (iC l (k+1)) (l.drop (k+1)):=by
 rw[e5 h,iD];have:iC l (k+1)=ez l[k]:=by unfold iC;rw[if_neg oM,fC,eG h]
 rw[this]
theorem uV:ByteArray.empty.toList=[]:=by rw[ByteArray.toList_eq];rfl
theorem Lf (l:List ju) (o:Option Addr) (cp:Nat) (w:eR) (aA:jk o l.length cp) (aK:l.length<=1000000) (az:oI w o l):
  fi eK 72 #[gE o l.length cp] w fun e w'=>e= .returned (.int .i64 (iD eD l))/\Below w.heap.size w w':=by
 obtain⟨ap,aj⟩:=nM (iD eD l);rw[aj];have Y:=gF aj;obtain⟨n,al⟩:=nM l.length;have aU:n<=cp:=by rcases aA with⟨_,h,_⟩|⟨_,_,h,_⟩<;>omega
 rw[al] at aK |-;have aq:=gF al;have ar:=gF az;clear aj al aA az;go_enter func72,ntmps72;go_wp2
 go_loopw [7] (fun t wr=> ∃k:Nat,k<=n/\t= .int .i64 k/\Below w.heap.size w wr/\Hid (iD (iC l k) (l.drop k)=ap)) (fun t _=>n - (intOf t).toNat)
 case atStart=>exact⟨0,Nat.zero_le _,rfl,Below.refl _ _,Y⟩
 case round=>
  obtain⟨k,aV,rfl,y,N⟩:=hrel;have an:=y.size
  by_cases aL:k<n
  .
   have aw:k<l.length:=by rw[aq.o];exact aL
   have V:=N.o;rw[EY aw] at V;obtain⟨v,A,rfl,E,ad,ae,af,ag,ah⟩:=ar.o.cell aw;obtain⟨I,ak⟩:=nM (l[k]);rw[ak] at V ad ae af ag ah;have O:wr.cell? ⟨v,A+k * 5,eD⟩=ez (ha I.key):=by rw[y.cell E];exact ad
   have P:wr.cell? ⟨v,A+k * 5+1,eD⟩=ez (ht I.lz):=by rw[y.cell E];exact ae
   have R:wr.cell? ⟨v,A+k * 5+2,eD⟩=ez (ht I.kp):=by rw[y.cell E];exact af
   have S:wr.cell? ⟨v,A+k * 5+3,eD⟩=ez (ha I.old):=by rw[y.cell E];exact ag
   have T:wr.cell? ⟨v,A+k * 5+4,eD⟩=ez (ha I.new):=by rw[y.cell E];exact ah
   have ay:k≠0-> ∃G,iC l k=ez G/\wr.cell? ⟨v,A+(k - 1) * 5,eD⟩=ez (ha G.key):=fun U=>by
    have ax:k - 1<l.length:=oM
    obtain⟨aF,j8,aE,-,aD,-⟩:=ar.o.cell ax;obtain⟨rfl,rfl⟩:v=aF/\A=j8:=by simpa using aE
    refine⟨l[k - 1],by unfold iC;rw[if_neg U,eG ax],by rw[y.cell E];exact aD⟩
   obtain⟨g,j,old,i,d⟩:=I;simp only at O P R S T;have av:v<wr.heap.size:=iU E an;have aC:=gF ay;have aJ:iC l 0=none:=rfl;have u:=gF V;have aQ:=gF ak;have s:Hid (∀ab,Below wr.heap.size wr ab->Below w.heap.size w ab):=gF fun ab aH=>Below.then y aH an;clear ay V ak ad ae af ag ah y N an Y
   by_cases aM:48<g.size
   . have c:Hid (iZ (iC l k) ⟨g,j,old,i,d⟩=4):=gF (by unfold iZ;rw[if_pos (.inl aM)]);go_wp2;go_ret;refine⟨?_,s.o _ (Below.one _ _)⟩;rw[<-u.o,if_pos (by rw[c.o];decide),c.o];rfl
   by_cases aN:80<old.size
   . have c:Hid (iZ (iC l k) ⟨g,j,old,i,d⟩=4):=gF (by unfold iZ;rw[if_pos (.inr (.inl aN))]);go_wp2;go_ret;refine⟨?_,s.o _ (Below.one _ _)⟩;rw[<-u.o,if_pos (by rw[c.o];decide),c.o];rfl
   by_cases aO:80<d.size
   . have c:Hid (iZ (iC l k) ⟨g,j,old,i,d⟩=4):=gF (by unfold iZ;rw[if_pos (.inr (.inr aO))]);go_wp2;go_ret;refine⟨?_,s.o _ (Below.one _ _)⟩;rw[<-u.o,if_pos (by rw[c.o];decide),c.o];rfl
   have aB: ¬(48<g.size\/80<old.size\/80<d.size):=oM
   have aa:=gF aB;clear aB;go_upto_region 6 with fail
   have H:=Bx.new wr #[ha g, ht j, ht i, ha old, ha d] 71;have D:=Below.one wr (.cells #[ha g, ht j, ht i, ha old, ha d] 71);obtain⟨ac,W⟩:=nM (wr.alloc (.cells #[ha g, ht j, ht i, ha old, ha d] 71));rw[W] at H D |-;obtain⟨aR,aG⟩:=nM wr.heap.size;rw[aG] at H |-;obtain⟨J,M⟩:=H.c2;have Z:=gF H;have C:=gF D;have ai:=jv.cells ac
   by_cases U:k=0
   focus
    subst U;have p:Hid (iZ (iC l 0) ⟨g,j,old,i,d⟩=if (j=eP/\i=eP)\/(j=eP/\old≠eI)\/(i=eP/\d≠eI) then 1 else 0):=gF (by unfold iZ;rw[if_neg aa.o];simp only[aJ,eJ,if_false]);clear O P R S T W H D;refine p3 oP oP ?_;repeat (any_goals (first|go_big_quiet_skip| (go_big_quiet_want;go_big_quiet_op;first|go_big_quiet_on|go_big_quiet_call ((fail)))|quiet_step ((fail))))
    refine e1 ?_;rintro au ⟨⟨_,q⟩,rfl⟩;have B:=Z.o.gD q;clear J M ai;obtain⟨J,M⟩:=B.c2;have z:=gF q;clear q B;cases j
    case' false=>
     cases i
     case' false=>have c:Hid (iZ (iC l 0) ⟨g,eP,old,eP,d⟩=1):=gF (by rw[p.o,if_pos (.inl ⟨rfl,rfl⟩)])
     rotate_left
     case' true=>
      by_cases m:old=eI
      .
       subst m;have c:Hid (iZ (iC l 0) ⟨g,eP,eI,eY,d⟩=0):=gF (by rw[p.o,if_neg oC]);go_wp2;go_roundw;case rel=>exact⟨0+1,oM,oQ,s.o _ (iq C.o z.o),gF (by rw[<-u.o,if_neg (by rw[c.o];decide)])⟩
       case measure=>simp[intOf];omega
      focus
       have F: ¬old.toList=[]:=fun e=>m (oB (e.trans uV.symm));have ao:(old.toList==[])=false:=by rw[beq_eq_false_iff_ne];exact F
       have c:Hid (iZ (iC l 0) ⟨g,eP,old,eY,d⟩=1):=gF (by rw[p.o,if_pos (.inr (.inl ⟨rfl,m⟩))])
    rotate_left 2
    case' true=>
     cases i
     case' false=>
      by_cases m:d=eI
      .
       subst m;have c:Hid (iZ (iC l 0) ⟨g,eY,old,eP,eI⟩=0):=gF (by rw[p.o,if_neg oC]);go_wp2;go_roundw;case rel=>exact⟨0+1,oM,oQ,s.o _ (iq C.o z.o),gF (by rw[<-u.o,if_neg (by rw[c.o];decide)])⟩
       case measure=>simp[intOf];omega
      focus
       have F: ¬d.toList=[]:=fun e=>m (oB (e.trans uV.symm));have ao:(d.toList==[])=false:=by rw[beq_eq_false_iff_ne];exact F
       have c:Hid (iZ (iC l 0) ⟨g,eY,old,eP,d⟩=1):=gF (by rw[p.o,if_pos (.inr (.inr ⟨rfl,m⟩))])
     rotate_left
     case' true=>
      have c:Hid (iZ (iC l 0) ⟨g,eY,old,eY,d⟩=0):=gF (by rw[p.o,if_neg oC]);go_wp2;go_roundw;case rel=>exact⟨0+1,oM,oQ,s.o _ (iq C.o z.o),gF (by rw[<-u.o,if_neg (by rw[c.o];decide)])⟩
      case measure=>simp[intOf];omega
   rotate_left 3;focus
    obtain⟨G,X,am⟩:=aC.o U;have aS:ac.cell? ⟨v,A+(k - 1) * 5,eD⟩=ez (ha G.key):=by rw[D.cell av];exact am
    have aT:v<ac.heap.size:=iU av D.size;have aX:(0:Int)<k:=oM
    have aW:0<k:=oM
    have aY:(k:Int) - 1<n:=oM
    have aZ:(0:Int)<=(k:Int) - 1:=oM
    have a0:((k:Int) - 1).toNat=k - 1:=oM
    cases L:iB G.key g
    case' false=>
     have aP:Go.Op.bytesLess G.key.toList g.toList=false:=L;have c:Hid (iZ (iC l k) ⟨g,j,old,i,d⟩=9):=gF (by unfold iZ;rw[if_neg aa.o,X];simp[L]);clear O P R S T W H D X am L;refine p3 oP oP ?_;repeat (any_goals (first|go_big_quiet_skip| (go_big_quiet_want;go_big_quiet_op;first|go_big_quiet_on|go_big_quiet_call ((fail)))|quiet_step ((fail))))
     refine e1 ?_;rintro au ⟨⟨_,q⟩,rfl⟩;have B:=Z.o.gD q;clear J M ai;obtain⟨J,M⟩:=B.c2;have z:=gF q;clear q B
    rotate_left
    case' true=>
     have aP:Go.Op.bytesLess G.key.toList g.toList=true:=L;have p:Hid (iZ (iC l k) ⟨g,j,old,i,d⟩=if (j=eP/\i=eP)\/(j=eP/\old≠eI)\/(i=eP/\d≠eI) then 1 else 0):=gF (by unfold iZ;rw[if_neg aa.o,X];simp only[L,Bool.not_true,eJ,if_false]);clear O P R S T W H D X am L;refine p3 oP oP ?_;repeat (any_goals (first|go_big_quiet_skip| (go_big_quiet_want;go_big_quiet_op;first|go_big_quiet_on|go_big_quiet_call ((fail)))|quiet_step ((fail))))
     refine e1 ?_;rintro au ⟨⟨_,q⟩,rfl⟩;have B:=Z.o.gD q;clear J M ai;obtain⟨J,M⟩:=B.c2;have z:=gF q;clear q B;cases j
     case' false=>
      cases i
      case' false=>have c:Hid (iZ (iC l k) ⟨g,eP,old,eP,d⟩=1):=gF (by rw[p.o,if_pos (.inl ⟨rfl,rfl⟩)])
      rotate_left
      case' true=>
       by_cases m:old=eI
       .
        subst m;have c:Hid (iZ (iC l k) ⟨g,eP,eI,eY,d⟩=0):=gF (by rw[p.o,if_neg oC]);go_wp2;go_roundw;case rel=>exact⟨k+1,oM,oQ,s.o _ (iq C.o z.o),gF (by rw[<-u.o,if_neg (by rw[c.o];decide)])⟩
        case measure=>simp[intOf];omega
       focus
        have F: ¬old.toList=[]:=fun e=>m (oB (e.trans uV.symm));have ao:(old.toList==[])=false:=by rw[beq_eq_false_iff_ne];exact F
        have c:Hid (iZ (iC l k) ⟨g,eP,old,eY,d⟩=1):=gF (by rw[p.o,if_pos (.inr (.inl ⟨rfl,m⟩))])
     rotate_left 2
     case' true=>
      cases i
      case' false=>
       by_cases m:d=eI
       .
        subst m;have c:Hid (iZ (iC l k) ⟨g,eY,old,eP,eI⟩=0):=gF (by rw[p.o,if_neg oC]);go_wp2;go_roundw;case rel=>exact⟨k+1,oM,oQ,s.o _ (iq C.o z.o),gF (by rw[<-u.o,if_neg (by rw[c.o];decide)])⟩
        case measure=>simp[intOf];omega
       focus
        have F: ¬d.toList=[]:=fun e=>m (oB (e.trans uV.symm));have ao:(d.toList==[])=false:=by rw[beq_eq_false_iff_ne];exact F
        have c:Hid (iZ (iC l k) ⟨g,eY,old,eP,d⟩=1):=gF (by rw[p.o,if_pos (.inr (.inr ⟨rfl,m⟩))])
      rotate_left
      case' true=>
       have c:Hid (iZ (iC l k) ⟨g,eY,old,eY,d⟩=0):=gF (by rw[p.o,if_neg oC]);go_wp2;go_roundw;case rel=>exact⟨k+1,oM,oQ,s.o _ (iq C.o z.o),gF (by rw[<-u.o,if_neg (by rw[c.o];decide)])⟩
       case measure=>simp[intOf];omega
   all_goals go_wp2;go_ret;refine⟨?_,s.o _ (iq C.o z.o)⟩;rw[<-u.o,if_pos (by rw[c.o];decide),c.o];rfl
  obtain rfl:k=n:=oM
  have aI:ap=0:=by rw[<-N.o,e8 (by rw[aq.o];exact eU _),iD]
  clear Y N;go_wp2;go_ret;exact⟨by rw[aI];rfl,y⟩
theorem Lg {l:List Nd} {h:Nat} (e:l≠[]) (c: ∀k∈l,k.dep=h+1):oy (l.map Nd.dep)=h+2:=by
 cases l with
 | nil=>exact absurd rfl e
 | cons k r=>have i:=c k oC;rw[eL,oy,i,if_neg,if_neg oM];simp only[List.any_eq_true,not_exists,not_and,eM];rintro x ⟨d,g,rfl⟩;simpa using c d (by simp[g])
theorem Tm.dep: ∀{n:Nd} {a b h:Nat},Tm a b h n->n.dep=h+1:=by
 intro n
 induction n using Nd.ind with
 | h q k p j=>
  intro a b h t;cases t with
  | lf=>rfl
  | mD _ _ h _ _ l c m i=>rw[Nd.qi];exact Lg (show k≠[] from fun g=>by rw[g] at c;simp at c) fun e d=>j e d (i e d)
theorem Tm.ry {h:Nat} {n:Nd} (t:Tm 2 4 h n):n.iX=false:=by
 unfold Nd.iX;cases h with
 | zero=>obtain⟨e,c,_,_⟩:=t.px;rw[if_pos e];simpa using c
 | succ h=>obtain⟨_,d,c,_,_⟩:=t.lK;rw[if_neg d];simpa using c
theorem Tm.kj: ∀{n:Nd} {a b h:Nat},Tm a b h n->n.kj=false:=by
 intro n
 induction n using Nd.ind with
 | h p l m g=>
  intro a b h t;rw[Nd.oz];cases t with
  | lf=>rfl
  | mD _ _ h _ _ j i k e=>
   simp only[fE,Nd.gC];intro d c;rw[(e d c).ry,g d c (e d c)]
   decide
theorem Lh {l:List Nat} (i:l≠[]) {h:Nat} (c:oy l=h+1): ∃m,h=m+1/\ ∀d∈l,d=m+1:=by
 cases l with
 | nil=>exact absurd rfl i
 | cons d r=>
  rw[oy] at c;split at c;cases c;rename_i g;split at c;cases c;rename_i j;refine⟨d - 1,oM,fun x e=>?_⟩;rcases j4.1 e with rfl|e;omega;simp only[List.any_eq_true,not_exists,not_and] at g;have:=g x e;have:x=d:=by simpa using this
  omega
theorem kM.tm: ∀{n:Nd} {h:Nat},kM n->n.dep=h+1->n.kj=eP->Tm 1 2 h n:=by
 intro n
 induction n using Nd.ind with
 | h H F G E=>
  intro h I m q;cases I with
  | lf _ _ z A p=>
   have:h=0:=by have:(Nd.mk H [] G).dep=1:=rfl;omega
   subst this;exact .lf _ _ _ _ z A p
  | mD _ _ k B p=>
   have D:F≠[]:=fun y=>by rw[y] at k;simp at k
   rw[Nd.qi] at m;simp only[Nd.gC] at m;obtain⟨u,rfl,C⟩:=Lh (by simpa using D) m;rw[Nd.oz] at q;simp only[fE,Nd.gC] at q;refine .mD _ _ _ _ _ k oM B fun g e=>?_;have l:=q g e;simp only[Bool.or_eq_true,not_or,Bool.not_eq_true] at l;exact((E g e (p g e) (C _ (eM.2 ⟨g,e,rfl⟩)) l.2).mono (eU _) (by decide:2<=2) |> fun t=>by
    have c:=l.1;unfold Nd.iX at c;cases u with
    | zero=>obtain⟨d,v,i,j⟩:=t.px;rw[if_pos d] at c;exact .nk d (by simpa using c) i j
    | succ u=>obtain⟨d,s,v,i,j⟩:=t.lK;rw[if_neg s] at c;exact .lU d s (by simpa using c) i j)
theorem xU {n:Nd} (s:kM n):vH n=eY↔jZ n.iv/\ ∃h,Tm 1 2 h n:=by
 unfold vH;simp only[Bool.and_eq_true,Bool.not_eq_true',decide_eq_true_eq];rw[vI];constructor;rintro⟨⟨c,g⟩,d⟩;obtain⟨h,e⟩: ∃h,n.dep=h+1:=⟨n.dep - 1,oM⟩;exact⟨c,h,s.tm e d⟩;rintro⟨c,h,t⟩;exact⟨⟨c,by rw[t.dep];omega⟩,t.kj⟩
theorem BD (s:List UInt8) (n:Nat):(mg s n).length=n:=by simp[mg]
theorem EZ {g:Int->List Int->Option (Nd×Nat×List Int)} {g':Int->List Int->Option (Nd×List Int)} (q: ∀p u n k c,g p u=ez (n,k,c)->g' p u=ez (n,c)):
  ∀{l:List Int} {o:Option Nat} {u c:List Int} {i:List Nd} {k:Nat},jn g l o u=ez (i,k,c)->jL g' l u=ez (i,c)/\(l=[]->k=o.getD 0)/\(l≠[]->(o=eD\/o=ez k)/\ ∀n∈i,∃p z A,g p z=ez (n,k,A))
 | [],o,u,c,i,k,h=>by simp only[jn,ey,eB] at h;obtain⟨rfl,rfl,rfl⟩:=h;exact⟨rfl,fun _=>rfl,fun h=>absurd rfl h⟩
 | p::r,o,u,c,i,k,h=>by
  rw[jn] at h;split at h;cases h;rename_i n E z v;split at h;cases h;rename_i s;obtain⟨⟨F,k2,A⟩,j,m⟩:=eV.1 h;simp only[eB] at m;obtain⟨rfl,rfl,rfl⟩:=m;obtain⟨C,D,y⟩:=EZ q j;have B:E=k2:=by
   by_cases d:r=[]
   exact(D d).symm;rcases (y d).1 with h|h;cases h;simpa using h
  subst B;refine⟨?_,fun h=>(by cases h),fun _=>⟨?_,?_⟩⟩;rw[jL,q _ _ _ _ _ v];simp only[C,e6];rcases o with _|o;exact .inl rfl;right;simp only[ne_eq,reduceCtorEq,not_false_eq_true,true_and,Decidable.not_not] at s;exact s;intro x e;rcases j4.1 e with rfl|e;exact⟨_,_,_,v⟩
  by_cases d:r=[]
  subst d;simp only[jn,ey,eB] at j;rw[<-j.1] at e;cases e;exact(y d).2 x e
theorem E0 {g:Int->List Int->Option (Nd×Nat×List Int)} {g':Int->List Int->Option (Nd×List Int)} {k:Nat} {Q:Nd->Prop} (i: ∀p u n c,Q n->g' p u=ez (n,c)->g p u=ez (n,k,c)):
  ∀{l:List Int} {o:Option Nat} {u c:List Int} {d:List Nd},(∀n∈d,Q n)->(o=eD\/o=ez k)->jL g' l u=ez (d,c)->jn g l o u=ez (d,if l=[] then o.getD 0 else k,c)
 | [],o,u,c,d,hq,ho,h=>by simp only[jL,ey,eB] at h;obtain⟨rfl,rfl⟩:=h;rfl
 | p::r,o,u,c,d,hq,ho,h=>by
  rw[jL] at h;split at h;cases h;rename_i n v m;obtain⟨⟨s,y⟩,j,e⟩:=eV.1 h;simp only[eB] at e;obtain⟨rfl,rfl⟩:=e;rw[jn,i _ _ _ _ (hq n oC) m];simp only;rw[if_neg (by rcases ho with rfl|rfl<;>simp)]
  rw[E0 i (o:=ez k) (fun x q=>hq x (by simp[q])) (.inr rfl) j];simp only[e6,fz,ite_self,if_neg (List.cons_ne_nil _ _)]
theorem zt {d:ik} {gI gJ:Int}: ∀(f:Nat) {gN:Bool} {page:Int} {used u:List Int} {n:Nd} {k:Nat},iR d gI gJ f gN page used=ez (n,k,u)->
  iH d gI gJ f page used=ez (n,u)/\ ∃h,k=h+1/\Tm (if gN then 1 else 2) (if gN then 2 else 4) h n
 | 0,_,_,_,_,_,_,h=>by cases h
 | f+1,gN,page,used,u,n,k,h=>by
  rw[iR] at h;rw[iH];split at h;cases h;rename_i G;rw[if_neg G];split at h;.
   rename_i g;rw[if_pos g];split at h;cases h;rename_i e;rw[if_neg oM];split at h;cases h;rename_i ps y;try (rw[y];simp only)
   split at h;rename_i i;rw[if_pos i];simp only[ey,eB] at h;obtain⟨rfl,rfl,rfl⟩:=h;obtain⟨p,q⟩:=tE y;refine⟨rfl,0,rfl, .lf _ _ _ _ ?_ oM q⟩;cases gN;simp only[true_and] at e;simp only[eJ,if_false];omega;simp only[if_true];omega;cases h
  rename_i g;rw[if_neg g];split at h;cases h;rename_i e;rw[not_or,not_or,not_or] at e;obtain⟨A,N,O,B⟩:=e;rw[if_neg (by rintro (h|h|h);exact A h;omega;omega)];split at h;cases h;rename_i m L S v;obtain⟨H,P,I⟩:=EZ (g':=iH d gI gJ f) (fun M u n k R j=>(zt f j).1) v;rw[H];simp only;split at h;rename_i i;rw[if_pos i];simp only[ey,eB] at h;obtain⟨rfl,rfl,rfl⟩:=h;obtain⟨p,q⟩:=vS v;have E:m.length=((gQ d page).getD 1 0).toNat:=by rw[p];simp[mg]
  have F:mg ((gQ d page).drop 2) ((gQ d page).getD 1 0).toNat≠[]:=fun c=>by have:=congrArg List.length c;rw[BD,eN] at this;omega
  obtain⟨-,J⟩:=I F;have s: ∀n∈m,∃h,L=h+1/\Tm 2 4 h n:=fun n l=>by obtain⟨M,T,U,j⟩:=J n l;exact(zt f j).2
  have D:m≠[]:=fun c=>by rw[c,eN] at E;omega
  obtain⟨z,r,rfl⟩:=List.exists_cons_of_ne_nil D;obtain⟨h,rfl,-⟩:=s z oC;refine⟨rfl,h+1,rfl, .mD _ _ _ _ _ ?_ oC oM fun n l=>?_⟩;cases gN;simp only[true_and] at B;simp only[eJ,if_false];omega;simp only[if_true];omega;obtain⟨C,c,t⟩:=s n l;obtain rfl:C=h:=oM
  exact t;cases h
theorem wu {g:Int->List Int->Option (Nd×List Int)}: ∀{l:List Int} {u e:List Int} {c:List Nd},jL g l u=ez (c,e)->c.length=l.length/\ ∀n∈c,∃p j k,g p j=ez (n,k)
 | [],u,e,c,h=>by simp only[jL,ey,eB] at h;obtain⟨rfl,rfl⟩:=h;exact⟨rfl,fun n q=>by cases q⟩
 | p::r,u,e,c,h=>by rw[jL] at h;split at h;cases h;rename_i n j s;obtain⟨⟨z,k⟩,m,i⟩:=eV.1 h;simp only[eB] at i;obtain⟨rfl,rfl⟩:=i;obtain⟨v,y⟩:=wu m;refine⟨by simp[v],fun x d=>?_⟩;rcases j4.1 d with rfl|d;exact⟨_,_,_,s⟩;exact y x d
theorem zu {d:ik} {gI gJ:Int}: ∀(f:Nat) {page:Int} {used u:List Int} {n:Nd},iH d gI gJ f page used=ez (n,u)->kM n
 | 0,_,_,_,_,h=>by cases h
 | f+1,page,used,u,n,h=>by
  rw[iH] at h;split at h;cases h;split at h;split at h;cases h;rename_i e;split at h;cases h;rename_i ps k;split at h;simp only[ey,eB] at h;obtain⟨rfl,-⟩:=h;obtain⟨g,c⟩:=tE k;exact .lf _ _ oM oM c;cases h;split at h;cases h;rename_i e;rw[not_or,not_or] at e;obtain⟨p,q,s⟩:=e;split at h;cases h;rename_i m z j;split at h;simp only[ey,eB] at h;obtain⟨rfl,-⟩:=h;obtain⟨g,c⟩:=wu j;have v:m.length=((gQ d page).getD 1 0).toNat:=by rw[g];simp[mg]
  exact .mD _ _ oM oM fun x l=>by obtain⟨y,A,B,i⟩:=c x l;exact zu f i
  cases h
theorem E1 {d:ik} {gI gJ:Int}: ∀(f:Nat) {gN:Bool} {page:Int} {used u:List Int} {n:Nd} {h:Nat},iH d gI gJ f page used=ez (n,u)->Tm (if gN then 1 else 2) (if gN then 2 else 4) h n->
  iR d gI gJ f gN page used=ez (n,h+1,u)
 | 0,_,_,_,_,_,_,h,_=>by cases h
 | f+1,gN,page,used,u,n,h,hl,t=>by
  rw[iH] at hl;rw[iR];split at hl;cases hl;rename_i I;rw[if_neg I];split at hl;.
   rename_i i;rw[if_pos i];split at hl;cases hl;rename_i j;split at hl;cases hl;rename_i ps s;obtain⟨p,C⟩:=tE s;split at hl;.
    rename_i l;simp only[ey,eB] at hl;obtain⟨rfl,rfl⟩:=hl;obtain rfl:h=0:=t.leaf.2 rfl;obtain⟨-,y,L,-⟩:=t.px;simp only[Nd.ps] at y L;rw[if_neg (by
     rintro (h|h|⟨e,D⟩);. omega
     . omega
     . subst e;simp only[eJ,if_false] at y;omega)]
    try (rw[s];simp only)
    rw[if_pos l]
   cases hl
  rename_i i;rw[if_neg i];split at hl;cases hl;rename_i j;rw[not_or,not_or] at j;obtain⟨B,N,O⟩:=j;split at hl;cases hl;rename_i v S q;split at hl;rename_i l;simp only[ey,eB] at hl;obtain⟨rfl,rfl⟩:=hl;obtain⟨p,C⟩:=wu q;have G:v.length=((gQ d page).getD 1 0).toNat:=by rw[p];simp[mg]
  have F:v≠[]:=fun c=>by rw[c,eN] at G;omega
  obtain⟨h,rfl⟩: ∃m,h=m+1:=by
   cases h with
   | zero=>exact absurd (t.leaf.1 rfl) F
   | succ m=>exact⟨m,rfl⟩
  obtain⟨-,-,z,M,A⟩:=t.lK;simp only[Nd.gC] at z M A;have H:mg ((gQ d page).drop 2) ((gQ d page).getD 1 0).toNat≠[]:=fun c=>by have:=congrArg List.length c;rw[BD,eN] at this;omega
  rw[if_neg (by
   rintro (h|h|h|⟨e,D⟩);. exact B h
   . omega
   . omega
   . subst e;simp only[eJ,if_false] at z;omega)]
  rw[E0 (g:=iR d gI gJ f eP) (k:=h+1) (Q:=Tm 2 4 h) (fun P u n R J E=>E1 f E J) (o:=eD) A (.inl rfl) q];simp only[if_neg H];rw[if_pos l];cases hl
theorem Li (d:ik) (gI gJ:Int) (r:Nat):ng d gI gJ r=l5 d gI gJ r:=by
 unfold ng l5;split;rfl;cases e:iH d gI gJ (kT gI gJ) r [] with
 | none=>
  simp only;cases c:iR d gI gJ (kT gI gJ) eY r [] with
  | none=>rfl
  | some x=>obtain⟨n,l,m⟩:=x;have:=(zt _ c).1;rw[e] at this;cases this
 | some p=>
  obtain⟨n,m⟩:=p;have k:=zu _ e;simp only;cases c:iR d gI gJ (kT gI gJ) eY r [] with
  | none=>simp only;rw[if_neg];intro j;obtain⟨-,h,t⟩:=(xU k).1 j;have:=E1 _ (gN:=eY) e t;rw[c] at this;cases this
  | some x=>
   obtain⟨q,l,s⟩:=x;obtain⟨i,h,-,t⟩:=zt _ c;rw[e] at i;simp only[ey,eB] at i;obtain⟨rfl,rfl⟩:=i;simp only
   by_cases g:kX n.iv=eY
   rw[if_pos g,if_pos ((xU k).2 ⟨(vI _).1 g,h,t⟩)];rw[if_neg g,if_neg fun j=>g ((vI _).2 ((xU k).1 j).1)]
theorem E2 (d:ik) (gI gJ:Int):j7 d gI gJ=kJ d gI gJ:=by unfold j7 kJ;rw[Li];rfl
theorem zv (d:ik) (gI gJ:Int):kN d gI gJ=jF d gI gJ:=by unfold kN jF;rw[E2];rfl
theorem wx (x:Ix):mz x=n4 x:=by unfold mz n4;rw[E2];rfl
theorem Lj {d:ik} {gI gJ:Int} {r:Nat} {t:Option Nd} {u:List Int} (h:l5 d gI gJ r=ez (t,u)):nW t:=by
 unfold l5 at h;split at h;simp only[ey,eB] at h;obtain⟨rfl,-⟩:=h;intro n c;cases c;split at h;cases h;rename_i n l j;split at h;rename_i i;simp only[ey,eB] at h;obtain⟨rfl,-⟩:=h;intro k c;cases c;obtain⟨e,g⟩:=(xU (zu _ j)).1 i;exact⟨g,e⟩;cases h
theorem BF {x:Ix} {t:Option Nd} (h:n4 x=ez t):nW t:=by
 unfold n4 at h;split at h;cases h;split at h;cases h;rename_i j e c;split at h;simp only[ey] at h;subst h;unfold kJ at c;split at c;cases c;split at c;cases c;rename_i g i d;simp only[ey,eB] at c;rw[<-c.2];exact Lj d;cases h
end Go.Proofs.YtlefmmhlpgmbjaaGreat
