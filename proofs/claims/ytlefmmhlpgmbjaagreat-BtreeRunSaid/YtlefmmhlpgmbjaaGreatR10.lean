import Derived.Test.YtlefmmhlpgmbjaaGreatR09
open Option renaming none->ca,some->cz
open Go.RowKit renaming Below->cd
open List renaming getElem_mem->cg,setIfInBounds_toArray->cq,take_succ_cons->cy,set_cons_zero->cA,take_succ_eq_append_getElem->cB,getElem_map->cC,any_eq_true->cD,take_zero->cF,take_of_length_le->cH,getElem_of_mem->cK,flatten_append->cL
open Bool renaming true->ch,false->ck
open Go.Proofs.Tryz renaming prog->cj,results95->cn,results30->cE,underlying41->cM
open Go renaming bodyPost_ret->cm,wpQuiet_nil->cp,World->cr,Calls->cu,results->cw,Value->cG,wpAny_take->cI,maxLen->cJ
open Go.Act renaming put->ct
open Go.AllReady renaming cons->cv
open Nat renaming le_refl->cx
open Go.Proofs.Tryz
set_option maxRecDepth 100000
set_option maxHeartbeats 4000000
open Go.Value renaming int->gE,slice->hA,string->hE,agg->hF,tuple->hG
open Go.IntKind renaming i64->ha
open Go.Ending renaming returned->ht
open Go.Obj renaming cells->hI
namespace Go.Proofs.YtlefmmhlpgmbjaaGreat
open Go.RowKit
variable {f:FuncId}{args:Array cG}{W w w':cr}{S:Nat->Prop}{cs:List cG}{o po ko:Option Addr}{pc h kc i k:Nat}{l:List Nat}
def kF (x:Ix) (a:kP) (l:List Kv):Ix×Int:=
 if a.kind=0\/a.kind=1 then lN x (nx a l)
 else if a.kind=2 then (oJ x a.left,0)
 else if a.kind=3 then kN (ma x.gL a.gP) x.gI x.gJ
 else (x,0)
def pO (x:Ix) (a:kP) (l:List Kv):Ix×Int:=if (kF x a l).2≠0/\(kF x a l).2≠18 then (x,(kF x a l).2) else kF x a l
def qV (d:ik):mS:=⟨fun r=>r.x 0,fun r W=>iF W (r.x 0) d⟩
theorem vp {d:ik} (h:cu cj f args W fun e w'=> ∃v,e= ht v/\iF w' v d/\cd W.heap.size W w'):cu cj f args W fun e w'=> ∃u,e= ht u/\pR (qV d) W u w':=
 h.mono fun _ _ ⟨v,he,ho,hb⟩=>⟨_,he,hb,fun _=>v,rfl,fun _ a=>ho.below a⟩
def om (L:List ju):mS:=⟨fun r=> hA (jK (r.x 0)) L.length (j3 (r.x 0)),fun r W=>jk (jK (r.x 0)) L.length (j3 (r.x 0))/\oI W (jK (r.x 0)) L⟩
theorem rS {L:List ju} (h:cu cj f args W fun e w'=> ∃o c,e= ht (hA o L.length c)/\jk o L.length c/\oI w' o L/\cd W.heap.size W w'):cu cj f args W fun e w'=> ∃u,e= ht u/\pR (om L) W u w':=
 h.mono fun _ _ ⟨o,c,he,hs,ho,hb⟩=>⟨_,he,hb,fun _=> hA o L.length c,rfl,fun _ a=>⟨hs,ho.below a⟩⟩
theorem vq {x:Ix} {er:Int} (h:cu cj f args W (rL W x er)):cu cj f args W fun e w'=> ∃u,e= ht u/\pR (lG x er) W u w':=by
 refine h.mono ?_;rintro e w' ⟨d,rfl,c,a⟩;exact⟨_,rfl,a,fun _=>d,rfl,fun g b=>c.below b⟩
structure pV (w:cr) (N:Nat) (x F:Ix) (po co fo gp gc gf:Option Addr) (pc cc fc hp hc hf:Nat) (AC:Array cG) (W:cr):Prop where
 box:Bx W N (ib x.gL po co pc cc x.gI x.gJ x.gZ x.gN fo x.free.length fc) 33
 act:Bx W (N+1) AC 54
 res:Bx W (N+2) jW 33
 qC:Bx W (N+3) (ib F.gL gp gc hp hc F.gI F.gJ F.gZ F.gN gf F.free.length hf) 33
 below:cd w.heap.size w W
 val:kG W (hF (ib x.gL po co pc cc x.gI x.gJ x.gZ x.gN fo x.free.length fc)) x
 new:kG W (hF (ib F.gL gp gc hp hc F.gI F.gJ F.gZ F.gN gf F.free.length hf)) F
section
variable {w:cr} {N:Nat} {x F G:Ix} {po co fo gp gc gf B9 Ca Cb:Option Addr} {pc cc fc hp hc hf Cc hc' hf':Nat} {AC:Array cG} {W Wf:cr}
theorem pV.next (h:pV w N x F po co fo gp gc gf pc cc fc hp hc hf AC W) (a:cd W.heap.size W Wf):pV w N x F po co fo gp gc gf pc cc fc hp hc hf AC Wf:=
 ⟨h.box.gD a,h.act.gD a,h.res.gD a,h.qC.gD a,iq h.below a,h.val.below a,h.new.below a⟩
theorem pV.put (h:pV w N x F po co fo gp gc gf pc cc fc hp hc hf AC W) (e:w.heap.size=N) (d:kG W (.agg (ib G.gL B9 Ca Cc hc' G.gI G.gJ G.gZ G.gN Cb G.free.length hf')) G)
  (b:jr W (N+3) (gE ha G.gL.size) (hA B9 G.gL.gG.length Cc) (hA Ca G.gL.gH.length hc') (gE ha G.gL.left) (gE ha G.gI) (gE ha G.gJ) (gE ha G.gZ) (gE ha G.gN) (hA Cb G.free.length hf')=Wf):
  pV w N x G po co fo B9 Ca Cb pc cc fc Cc hc' hf' AC Wf:=by
 have a:Only (N+3) W Wf:=by subst b;exact Only.nine
 have c:=kZ F.gL.size F.gL.left F.gI F.gJ F.gZ F.gN gp gc gf F.gL.gG.length F.gL.gH.length F.free.length hp hc hf;exact⟨h.box.only a oM,h.act.only a oM,h.res.only a oM,by subst b;exact h.qC.kh,by subst b;exact mV h.below oM,h.val.only h.qC c oF a,d.only h.qC c oF a⟩
end
theorem MU (x:Ix) (v:cG) (a:kP) (am ao aq ah:Option Addr) (al an ap ag:Nat) (l:List Kv) (a4:Option Addr) (a9:Nat) (w:cr) (bu:kG w v x) (aw:ur w a am ao aq ah al an ap ag) (hf:lF a=ch) (aF:jS w a4 l) (aG:jk a4 l.length a9) (hc:x.gL.gH.length<=900000):
  cu cj 30 #[v, hF (jG a am ao aq ah al an ap ag), hA a4 l.length a9] w (oV w (pO x a l)):=by
 obtain⟨aU,Y⟩:=nM (pO x a l);rw[Y];obtain⟨AC,bR⟩:=nP (jG a am ao aq ah al an ap ag);have ae:=bu;obtain⟨po,pc,co,cc,fo,fc,rfl,aK,a1,a2⟩:=bu;obtain⟨N,ax⟩:=nM w.heap.size;obtain⟨W3,aL⟩:=nM (((w.alloc (hI (ib x.gL po co pc cc x.gI x.gJ x.gZ x.gN fo x.free.length fc) 33)).alloc (hI (jG a am ao aq ah al an ap ag) 54)).alloc (hI jW 33));have bh:Bx W3 N (ib x.gL po co pc cc x.gI x.gJ x.gZ x.gN fo x.free.length fc) 33:=by subst aL ax;exact((Bx.new w _ _).alloc _).alloc _
 have bH:Bx W3 (N+1) (jG a am ao aq ah al an ap ag) 54:=by subst aL ax;exact(Bx.ir _ _ _ _ oC).alloc _
 have bI:Bx W3 (N+2) jW 33:=by subst aL ax;exact Bx.ir _ _ _ _ oC
 have aN:W3.heap.size=N+3:=by subst aL ax;simp
 have bs:cd w.heap.size w W3:=by subst aL;exact((Below.one w _).alloc oC _).alloc oN _
 obtain⟨D,af⟩:=bh.c2;go_enter func30,ntmps30;go_upto_region 2 with fail
 have bt:=Below.one W3 (hI (ib x.gL po co pc cc x.gI x.gJ x.gZ x.gN fo x.free.length fc) 33);have u:pV w N x x po co fo po co fo pc cc fc pc cc fc (jG a am ao aq ah al an ap ag) (W3.alloc (hI (ib x.gL po co pc cc x.gI x.gJ x.gZ x.gN fo x.free.length fc) 33)):=by have a':=iq bs bt;exact⟨bh.alloc _,bH.alloc _,bI.alloc _,Bx.ir _ _ _ _ aN.symm,a',ae.below a',ae.below a'⟩
 clear D af bh bH bI bs bt aL aN;generalize W3.alloc (hI (ib x.gL po co pc cc x.gI x.gJ x.gZ x.gN fo x.free.length fc) 33)=W4 at *;obtain⟨aV,a3⟩:=u.act.c2;obtain⟨D,af⟩:=u.box.c2;cases bz:(a.kind==0)
 case' false=>
  have bT:a.kind≠0:=by simpa using bz
  cases bA:(a.kind==1)
  case' false=>
   have bU:a.kind≠1:=by simpa using bA
   cases bB:(a.kind==2)
   case' false=>
    have bF:a.kind≠2:=by simpa using bB
    cases bC:(a.kind==3)
    case' false=>
     have bP:a.kind≠3:=by simpa using bC
     obtain⟨F,gp,gc,gf,hp,hc',hf',aC,a8,bn,bo,bp,bq,br⟩: ∃F gp gc gf hp hc' hf',F=x/\gp=po/\gc=co/\gf=fo/\hp=pc/\hc'=cc/\hf'=fc:=⟨_,_,_,_,_,_,_,rfl,rfl,rfl,rfl,rfl,rfl,rfl⟩;have E:kF x a l=(F,0):=by rw[aC];unfold kF;rw[if_neg oM,if_neg bF,if_neg bP]
     have t:pV w N x F po co fo gp gc gf pc cc fc hp hc' hf' (jG a am ao aq ah al an ap ag) W4:=by rw[aC,a8,bn,bo,bp,bq,br];exact u
     clear aC a8 bn bo bp bq br;clear D af;go_upto_region 10 with fail
     obtain⟨ak,A⟩:=nP W4;rw[<-A] at t |-;clear aV a3 A;have a5:=t.box;have ac:=t.res;have a6:=t.qC;obtain⟨D,af⟩:=a5.c2;obtain⟨aW,bD,bm⟩:=ac.c3;obtain⟨V,bE⟩:=a6.c2;unfold ib at D V;unfold jW at aW;obtain⟨G,y⟩:=nP F;have ad:aU=(G,0):=by rw[<-Y,y];unfold pO;rw[E,if_neg fun h=>h.1 rfl]
     have d:=t.new;obtain⟨Wf,e⟩:=nM (jr ak (N+2) (gE ha F.gL.size) (hA gp F.gL.gG.length hp) (hA gc F.gL.gH.length hc') (gE ha F.gL.left) (gE ha F.gI) (gE ha F.gJ) (gE ha F.gZ) (gE ha F.gN) (hA gf F.free.length hf'));rw[<-y] at d e V;obtain⟨m,n,p,q,r,s,J,M,O,P,R,T⟩: ∃m n p q r s,m=gp/\n=gc/\p=gf/\q=hp/\r=hc'/\s=hf':=⟨_,_,_,_,_,_,rfl,rfl,rfl,rfl,rfl,rfl⟩;rw[<-J, <-M, <-O, <-P, <-R, <-T] at d e V;clear J M O P R T y;clear Y E u aw aF aG ae aK a1 a2;have a7:Bx Wf (N+2) (ib G.gL m n q r G.gI G.gJ G.gZ G.gN p G.free.length s) 33:=by subst e;exact ac.kh
     have aA:cd w.heap.size w Wf:=by subst e;exact mV t.below oM
     have aB:kG Wf (hF (ib G.gL m n q r G.gI G.gJ G.gZ G.gN p G.free.length s)) G:=by subst e;exact d.only ac (kZ _ _ _ _ _ _ _ _ _ _ _ _ _ _ _) oF Only.nine
     have aR:=gF e;have aO:=gF aA;have aP:=gF aB;have aQ:=gF ad;clear e aA aB ad d;go_wp2;have au:=aR.o;unfold jr lj at au;rw[au];have av:=a7.cell;unfold ib at av;refine cm (v:= hG #[hF (ib G.gL m n q r G.gI G.gJ G.gZ G.gN p G.free.length s), gE ha 0]) (by simp[cw,cE,go_sem,av,ib]) rfl ?_;rw[aQ.o];exact⟨_,rfl,aP.o,aO.o⟩
    case' true=>
     have bN:a.kind=3:=by simpa using bC
     have E:kF x a l=kN (ma x.gL a.gP) x.gI x.gJ:=by unfold kF;rw[if_neg oM,if_neg bF,if_pos bN]
     obtain⟨C,ba⟩:=nM (ma x.gL a.gP);obtain⟨F,g,B⟩: ∃F g,kN C x.gI x.gJ=(F,g):=⟨_,_,rfl⟩;have bS:=wB hf;have bv:=fun W (X:cd w.heap.size w W)=>Jf x.gL _ a.gP ah ag W (aK.below X) ((aw.below X).gP) oM oM ba;have bd:=fun v W (bO:iF W v C)=>Bd C v x.gI x.gJ W bO;rw[ba,B] at E;rw[B] at bd;have bJ:=gF bv;have bK:=gF bd;have aj:Hid (∀x:jv W4,cd w.heap.size w x.w):=gF fun x=>iq u.below x.h;clear bv bd B ba;have aX:=jv.cells W4;go_upto_region 9 with fail
     refine sf 13 12 2 #[ch,ch,ch,ch,ch,ch,ch,ch,ch,ch,ch,ch,ck,ck,ck] #[ch,ch,ch,ch,ch,ch,ch,ch,ch,ch,ch,ch,ch,ck,ck] (fun i=>if i=4 then cz (qV C) else if i=9 then cz (lG F g) else ca) _ oP rfl oO oO oP oO rfl (fun _ _ _ _ h=>h) (sg _ _ rfl) ?_;simp only[cy,cF];refine LW.b 4 4 ?_;simp only[jC];repeat (go_big_quiet_step (fail))
     refine cp ?_;refine LW.z ?_ ?_;. intro az _;unfold ix;go_simp;exact vp (bJ.o _ (aj.o _))
     intro aI;simp only[ct,gU,qV];refine LW.b 4 9 ?_;simp only[jC];repeat (go_big_quiet_step (fail))
     refine cp ?_;refine LW.z ?_ ?_;. intro az a0;have bL:iF az.w (aI.x 0) C:=(a0 4 oP).get (j:=4) rfl rfl;unfold ix;go_simp;exact vq (bK.o _ _ bL)
     intro bG;simp only[ct,gU,lG];refine LW.b 3 13 ?_;simp only[jC];repeat (go_big_quiet_step (fail))
     refine cp ?_;refine LW.done ?_;intro ai d;have U:kG ai (bG.x 0) F:=d.get 9 rfl rfl;have Z:=d.below;obtain⟨bg,ay⟩:=nM (bG.x 0);rw[ay] at U |-;clear d ay D af aV a3 aX;have I:=u.next Z;have aa:=U;obtain⟨gp,hp,gc,hc',gf,hf',rfl,-,-,-⟩:=U;obtain⟨ak,A⟩:=nM (jr ai (N+3) (gE ha F.gL.size) (hA gp F.gL.gG.length hp) (hA gc F.gL.gH.length hc') (gE ha F.gL.left) (gE ha F.gI) (gE ha F.gJ) (gE ha F.gZ) (gE ha F.gN) (hA gf F.free.length hf'));have t:=I.put ax aa A;obtain⟨ab,aH,H⟩:=I.qC.c3;unfold ib at ab;unfold jr lj at A;refine iG 13 fun K hK=>?_;go_simp;refine hK _ _ ?_;clear hK K;refine iG 14 fun K hK=>?_;go_simp;refine hK _ _ ?_;clear hK K;refine kS ?_;clear u I Z aa;go_upto_region 10 with fail
     clear A ab aH H
   case' true=>
    have bM:a.kind=2:=by simpa using bB
    obtain⟨F,B⟩:=nM (oJ x a.left);have E:kF x a l=(F,0):=by unfold kF;rw[if_neg oM,if_pos bM,B]
    have be:=FM x _ a.left W4 (ae.below u.below);rw[B] at be;have bi:=gF be;have bj:=gF u;clear be B u;go_wp2_with fail;refine bi.o.mono ?_;rintro bQ ai ⟨bg,rfl,U,Z⟩;have u:=bj.o;clear D af aV a3 bj bi;have I:=u.next Z;have aa:=U;obtain⟨gp,hp,gc,hc',gf,hf',rfl,-,-,-⟩:=U;obtain⟨ak,A⟩:=nM (jr ai (N+3) (gE ha F.gL.size) (hA gp F.gL.gG.length hp) (hA gc F.gL.gH.length hc') (gE ha F.gL.left) (gE ha F.gI) (gE ha F.gJ) (gE ha F.gZ) (gE ha F.gN) (hA gf F.free.length hf'));have t:=I.put ax aa A;obtain⟨ab,aH,H⟩:=I.qC.c3;unfold ib at ab;unfold jr lj at A;clear u I Z aa;go_upto_region 10 with fail
    clear A ab aH H;have u:=t;have a5:=t.box;have ac:=t.res;have a6:=t.qC;obtain⟨D,af⟩:=a5.c2;obtain⟨aW,bD,bm⟩:=ac.c3;obtain⟨V,bE⟩:=a6.c2;unfold ib at D V;unfold jW at aW;obtain⟨G,y⟩:=nP F;have ad:aU=(G,0):=by rw[<-Y,y];unfold pO;rw[E,if_neg fun h=>h.1 rfl]
    have d:=t.new;obtain⟨Wf,e⟩:=nM (jr ak (N+2) (gE ha F.gL.size) (hA gp F.gL.gG.length hp) (hA gc F.gL.gH.length hc') (gE ha F.gL.left) (gE ha F.gI) (gE ha F.gJ) (gE ha F.gZ) (gE ha F.gN) (hA gf F.free.length hf'));rw[<-y] at d e V;obtain⟨m,n,p,q,r,s,J,M,O,P,R,T⟩: ∃m n p q r s,m=gp/\n=gc/\p=gf/\q=hp/\r=hc'/\s=hf':=⟨_,_,_,_,_,_,rfl,rfl,rfl,rfl,rfl,rfl⟩;rw[<-J, <-M, <-O, <-P, <-R, <-T] at d e V;clear J M O P R T y;clear Y E u aw aF aG ae aK a1 a2;have a7:Bx Wf (N+2) (ib G.gL m n q r G.gI G.gJ G.gZ G.gN p G.free.length s) 33:=by subst e;exact ac.kh
    have aA:cd w.heap.size w Wf:=by subst e;exact mV t.below oM
    have aB:kG Wf (hF (ib G.gL m n q r G.gI G.gJ G.gZ G.gN p G.free.length s)) G:=by subst e;exact d.only ac (kZ _ _ _ _ _ _ _ _ _ _ _ _ _ _ _) oF Only.nine
    have aR:=gF e;have aO:=gF aA;have aP:=gF aB;have aQ:=gF ad;clear e aA aB ad d;go_wp2;have au:=aR.o;unfold jr lj at au;rw[au];have av:=a7.cell;unfold ib at av;refine cm (v:= hG #[hF (ib G.gL m n q r G.gI G.gJ G.gZ G.gN p G.free.length s), gE ha 0]) (by simp[cw,cE,go_sem,av,ib]) rfl ?_;rw[aQ.o];exact⟨_,rfl,aP.o,aO.o⟩
  case' true=>
   have bx:a.kind=1:=by simpa using bA
   obtain⟨F,g,B⟩: ∃F g,lN x (nx a l)=(F,g):=⟨_,_,rfl⟩;obtain⟨L,ar⟩:=nM (nx a l);have aY:L.length<=1000:=by have aC:=zQ a l;have a8:=wB hf;rw[ar] at aC;omega
   have aD:=fun W (X:cd w.heap.size w W)=>zT a am ao aq ah al an ap ag l a4 a9 W (aw.below X) hf (aF.below X) aG;have aE:=fun W o c (X:cd w.heap.size w W) (bf:jk o L.length c) (bb:oI W o L)=>zR x _ L o c W (ae.below X) bf aY bb hc;rw[ar] at B aD;rw[B] at aE;have E:kF x a l=(F,g):=by unfold kF;rw[if_pos oM,ar,B]
   (try clear bx)
   (try clear bw)
   have aS:=gF aD;have aT:=gF aE;have aj:Hid (∀aJ:jv W4,cd w.heap.size w aJ.w):=gF fun aJ=>iq u.below aJ.h;clear aD aE B ar aY;have aX:=jv.cells W4;go_upto_region 5 with fail
   refine sf 8 7 2 #[ch,ch,ch,ch,ch,ch,ch,ck,ck,ck] #[ch,ch,ch,ch,ch,ch,ch,ch,ck,ck] (fun i=>if i=3 then cz (om L) else if i=4 then cz (lG F g) else ca) _ oP rfl oO oO oP oO rfl (fun _ _ _ _ h=>h) (sg _ _ rfl) ?_;simp only[cy,cF];refine LW.b 3 3 ?_;simp only[jC];repeat (go_big_quiet_step (fail))
   refine cp ?_;refine LW.z ?_ ?_;. intro az _;unfold ix;go_simp;exact rS (aS.o _ (aj.o _))
   intro H;simp only[ct,gU,om];refine LW.z ?_ ?_;. intro az a0;obtain⟨aN,bc⟩:jk (jK (H.x 0)) L.length (j3 (H.x 0))/\oI az.w (jK (H.x 0)) L:=(a0 3 oP).get (j:=3) rfl rfl;unfold ix;go_simp;exact qU (aT.o _ _ _ (aj.o _) aN bc)
   intro aI;simp only[ct,gU,lG];refine LW.b 3 8 ?_;simp only[jC];repeat (go_big_quiet_step (fail))
   refine cp ?_;refine LW.done ?_;intro ai d;have U:kG ai (aI.x 0) F:=d.get 4 rfl rfl;have Z:=d.below;obtain⟨bg,ay⟩:=nM (aI.x 0);rw[ay] at U |-;clear d ay D af aV a3 aX aS aT aj;have I:=u.next Z;have aa:=U;obtain⟨gp,hp,gc,hc',gf,hf',rfl,-,-,-⟩:=U;obtain⟨ak,A⟩:=nM (jr ai (N+3) (gE ha F.gL.size) (hA gp F.gL.gG.length hp) (hA gc F.gL.gH.length hc') (gE ha F.gL.left) (gE ha F.gI) (gE ha F.gJ) (gE ha F.gZ) (gE ha F.gN) (hA gf F.free.length hf'));have t:=I.put ax aa A;obtain⟨ab,aH,H⟩:=I.qC.c3;unfold ib at ab;unfold jr lj at A;refine iG 8 fun K hK=>?_;go_simp;refine hK _ _ ?_;clear hK K;refine iG 9 fun K hK=>?_;go_simp;refine hK _ _ ?_;clear hK K;refine kS ?_;clear u I Z aa;go_upto_region 10 with fail
   clear A ab aH H
 case' true=>
  have bw:a.kind=0:=by simpa using bz
  obtain⟨F,g,B⟩: ∃F g,lN x (nx a l)=(F,g):=⟨_,_,rfl⟩;obtain⟨L,ar⟩:=nM (nx a l);have aY:L.length<=1000:=by have aC:=zQ a l;have a8:=wB hf;rw[ar] at aC;omega
  have aD:=fun W (X:cd w.heap.size w W)=>zT a am ao aq ah al an ap ag l a4 a9 W (aw.below X) hf (aF.below X) aG;have aE:=fun W o c (X:cd w.heap.size w W) (bf:jk o L.length c) (bb:oI W o L)=>zR x _ L o c W (ae.below X) bf aY bb hc;rw[ar] at B aD;rw[B] at aE;have E:kF x a l=(F,g):=by unfold kF;rw[if_pos oM,ar,B]
  (try clear bx)
  (try clear bw)
  have aS:=gF aD;have aT:=gF aE;have aj:Hid (∀aJ:jv W4,cd w.heap.size w aJ.w):=gF fun aJ=>iq u.below aJ.h;clear aD aE B ar aY;have aX:=jv.cells W4;go_upto_region 5 with fail
  refine sf 8 7 2 #[ch,ch,ch,ch,ch,ch,ch,ck,ck,ck] #[ch,ch,ch,ch,ch,ch,ch,ch,ck,ck] (fun i=>if i=3 then cz (om L) else if i=4 then cz (lG F g) else ca) _ oP rfl oO oO oP oO rfl (fun _ _ _ _ h=>h) (sg _ _ rfl) ?_;simp only[cy,cF];refine LW.b 3 3 ?_;simp only[jC];repeat (go_big_quiet_step (fail))
  refine cp ?_;refine LW.z ?_ ?_;. intro az _;unfold ix;go_simp;exact rS (aS.o _ (aj.o _))
  intro H;simp only[ct,gU,om];refine LW.z ?_ ?_;. intro az a0;obtain⟨aN,bc⟩:jk (jK (H.x 0)) L.length (j3 (H.x 0))/\oI az.w (jK (H.x 0)) L:=(a0 3 oP).get (j:=3) rfl rfl;unfold ix;go_simp;exact qU (aT.o _ _ _ (aj.o _) aN bc)
  intro aI;simp only[ct,gU,lG];refine LW.b 3 8 ?_;simp only[jC];repeat (go_big_quiet_step (fail))
  refine cp ?_;refine LW.done ?_;intro ai d;have U:kG ai (aI.x 0) F:=d.get 4 rfl rfl;have Z:=d.below;obtain⟨bg,ay⟩:=nM (aI.x 0);rw[ay] at U |-;clear d ay D af aV a3 aX aS aT aj;have I:=u.next Z;have aa:=U;obtain⟨gp,hp,gc,hc',gf,hf',rfl,-,-,-⟩:=U;obtain⟨ak,A⟩:=nM (jr ai (N+3) (gE ha F.gL.size) (hA gp F.gL.gG.length hp) (hA gc F.gL.gH.length hc') (gE ha F.gL.left) (gE ha F.gI) (gE ha F.gJ) (gE ha F.gZ) (gE ha F.gN) (hA gf F.free.length hf'));have t:=I.put ax aa A;obtain⟨ab,aH,H⟩:=I.qC.c3;unfold ib at ab;unfold jr lj at A;refine iG 8 fun K hK=>?_;go_simp;refine hK _ _ ?_;clear hK K;refine iG 9 fun K hK=>?_;go_simp;refine hK _ _ ?_;clear hK K;refine kS ?_;clear u I Z aa;go_upto_region 10 with fail
  clear A ab aH H
 all_goals
  have a5:=t.box;have ac:=t.res;have a6:=t.qC;obtain⟨D,af⟩:=a5.c2;obtain⟨aW,bD,bm⟩:=ac.c3;obtain⟨V,bE⟩:=a6.c2;unfold ib at D V;unfold jW at aW;cases bk:(g !=0)
  case' false=>
   have aM:g=0:=by simpa using bk
   obtain⟨G,y⟩:=nP F;have ad:aU=(G,g):=by rw[<-Y,y];unfold pO;rw[E,if_neg fun h=>h.1 aM]
   clear aM;have d:=t.new;obtain⟨Wf,e⟩:=nM (jr ak (N+2) (gE ha F.gL.size) (hA gp F.gL.gG.length hp) (hA gc F.gL.gH.length hc') (gE ha F.gL.left) (gE ha F.gI) (gE ha F.gJ) (gE ha F.gZ) (gE ha F.gN) (hA gf F.free.length hf'));rw[<-y] at d e V;obtain⟨m,n,p,q,r,s,J,M,O,P,R,T⟩: ∃m n p q r s,m=gp/\n=gc/\p=gf/\q=hp/\r=hc'/\s=hf':=⟨_,_,_,_,_,_,rfl,rfl,rfl,rfl,rfl,rfl⟩;rw[<-J, <-M, <-O, <-P, <-R, <-T] at d e V;clear J M O P R T y;clear Y E aw aF aG ae aK a1 a2
  case' true=>
   have aM:g≠0:=by simpa using bk
   cases bl:(g !=18)
   case' false=>
    have aZ:g=18:=by simpa using bl
    obtain⟨G,y⟩:=nP F;have ad:aU=(G,g):=by rw[<-Y,y];unfold pO;rw[E,if_neg fun h=>h.2 aZ]
    clear aM aZ;have d:=t.new;obtain⟨Wf,e⟩:=nM (jr ak (N+2) (gE ha F.gL.size) (hA gp F.gL.gG.length hp) (hA gc F.gL.gH.length hc') (gE ha F.gL.left) (gE ha F.gI) (gE ha F.gJ) (gE ha F.gZ) (gE ha F.gN) (hA gf F.free.length hf'));rw[<-y] at d e V;obtain⟨m,n,p,q,r,s,J,M,O,P,R,T⟩: ∃m n p q r s,m=gp/\n=gc/\p=gf/\q=hp/\r=hc'/\s=hf':=⟨_,_,_,_,_,_,rfl,rfl,rfl,rfl,rfl,rfl⟩;rw[<-J, <-M, <-O, <-P, <-R, <-T] at d e V;clear J M O P R T y;clear Y E aw aF aG ae aK a1 a2
   case' true=>
    have aZ:g≠18:=by simpa using bl
    obtain⟨G,y⟩:=nP x;have ad:aU=(G,g):=by rw[<-Y,y];unfold pO;rw[E,if_pos ⟨aM,aZ⟩]
    clear aM aZ;have d:=t.val;obtain⟨Wf,e⟩:=nM (jr ak (N+2) (gE ha x.gL.size) (hA po x.gL.gG.length pc) (hA co x.gL.gH.length cc) (gE ha x.gL.left) (gE ha x.gI) (gE ha x.gJ) (gE ha x.gZ) (gE ha x.gN) (hA fo x.free.length fc));rw[<-y] at d e D;obtain⟨m,n,p,q,r,s,J,M,O,P,R,T⟩: ∃m n p q r s,m=po/\n=co/\p=fo/\q=pc/\r=cc/\s=fc:=⟨_,_,_,_,_,_,rfl,rfl,rfl,rfl,rfl,rfl⟩;rw[<-J, <-M, <-O, <-P, <-R, <-T] at d e D;clear J M O P R T y Y E aw aF aG ae aK a1 a2
  all_goals
   have a7:Bx Wf (N+2) (ib G.gL m n q r G.gI G.gJ G.gZ G.gN p G.free.length s) 33:=by subst e;exact ac.kh
   have aA:cd w.heap.size w Wf:=by subst e;exact mV t.below oM
   have aB:kG Wf (hF (ib G.gL m n q r G.gI G.gJ G.gZ G.gN p G.free.length s)) G:=by subst e;exact d.only ac (kZ _ _ _ _ _ _ _ _ _ _ _ _ _ _ _) oF Only.nine
   have aR:=gF e;have aO:=gF aA;have aP:=gF aB;have aQ:=gF ad;clear e aA aB ad d;go_wp2;have au:=aR.o;unfold jr lj at au;rw[au];have av:=a7.cell;unfold ib at av;refine cm (v:= hG #[hF (ib G.gL m n q r G.gI G.gJ G.gZ G.gN p G.free.length s), gE ha g]) (by simp[cw,cE,go_sem,av,ib]) rfl ?_;rw[aQ.o];exact⟨_,rfl,aP.o,aO.o⟩
inductive jf (S:Nat->Prop) (w:cr):List cG->Nd->Prop
 | mk (ps:List Kv) (gC:List Nd) (page:Int) (po:Option Addr) (pc:Nat) (ko:Option Addr) (kc:Nat) (KC:List (List cG))
  (h1:jk po ps.length pc) (h2:gO S w po (gV ps)) (h3:jk ko gC.length kc) (h4:KC.length=gC.length) (h5:gO S w ko KC.flatten)
  (h6: ∀(i:Nat) (h:i<gC.length) (h':i<KC.length),jf S w KC[i] gC[i]):jf S w [hA po ps.length pc, hA ko gC.length kc, gE ha page] (.mk ps gC page)
theorem jf.cells {n:Nd} (h:jf S w cs n): ∃po pc ko kc,cs=il po pc ko kc n:=by
 cases h with|mk ps gC page po pc ko kc KC h1 h2 h3 h4 h5 h6=>exact⟨po,pc,ko,kc,rfl⟩
theorem jf.len {n:Nd} (h:jf S w cs n):cs.length=3:=by
 obtain⟨_,_,_,_,rfl⟩:=h.cells;rfl
theorem gO.same' {xs:List cG} (h:gO S w o xs) (g: ∀b,S b->w'.heap[b]?=w.heap[b]?):gO S w' o xs:=by
 intro j e;obtain⟨a,m,d,hc,c⟩:=h j e;exact⟨a,m,d,by rw[<-hc];simp[World.cell?,g a c],c⟩
theorem jf.same {T:Nat->Prop} (d: ∀b,S b->w'.heap[b]?=w.heap[b]?) (a: ∀b,S b->T b): ∀{n:Nd} {cs:List cG},jf S w cs n->jf T w' cs n:=by
 intro n
 induction n using Nd.ind with
 | h p j m g=>
  intro cs h;cases h with|mk p j m po pc ko kc KC h1 h2 h3 h4 h5 h6=>
   exact .mk _ _ _ _ _ _ _ KC h1 ((h2.same' d).mono a) h3 h4 ((h5.same' d).mono a) fun i c e=>g _ (cg c) (h6 i c e)
theorem jf.c (a: ∀b,S b->b<w.heap.size): ∀{n:Nd} {cs:List cG},jf S w cs n->mU w cs n:=by
 intro n
 induction n using Nd.ind with
 | h p j m g=>
  intro cs h;cases h with|mk p j m po pc ko kc KC h1 h2 h3 h4 h5 h6=>
   exact .mk _ _ _ _ _ _ _ KC h1 (h2.mono a) h3 h4 (h5.mono a) fun i d e=>g _ (cg d) (h6 i d e)
theorem jf.leaf {ps:List Kv} {page:Int} (a:jk po ps.length pc) (b:gO S w po (gV ps)):jf S w [hA po ps.length pc, hA ca 0 0, gE ha page] (.mk ps [] page):=
 .mk ps [] page po pc ca 0 [] a b (.inl ⟨rfl,rfl,rfl⟩) rfl (gO.nil _ _ _) (fun i c=>by simp at c)
theorem jf.page {S:Nat->Prop} {w:cr} {po ko:Option Addr} {pc kc:Nat} {ps:List Kv} {gC:List Nd} {page:Int} (h:jf S w (il po pc ko kc (.mk ps gC page)) (.mk ps gC page)) (p:Int):jf S w (il po pc ko kc (.mk ps gC p)) (.mk ps gC p):=by
 generalize a:il po pc ko kc (.mk ps gC page)=cs at h;cases h with|mk _ _ _ Py Pz PA nV KC h1 h2 h3 h4 h5 h6=>
  obtain⟨rfl,rfl,rfl,rfl⟩:po=Py/\pc=Pz/\ko=PA/\kc=nV:=by simp only[il,Nd.ps,Nd.gC,Nd.page,List.cons.injEq,Value.slice.injEq,and_true,true_and] at a;exact⟨a.1.1,a.1.2,a.2.1,a.2.2⟩
  exact .mk _ _ _ _ _ _ _ KC h1 h2 h3 h4 h5 h6
theorem F5 (o:Option Addr) (c:Nat) (l:List Int) (x:Int) (w:cr) (r:jk o l.length c) (y:l.length<=1000000) (A:lp S w o l):
  cu cj 94 #[hA o l.length c, gE ha x] w fun e w'=>e= ht (.bool (decide (x∈l)))/\w'=w:=by
 obtain⟨n,d⟩:=nM l.length;have D:n<=c:=by rcases r with⟨_,h,_⟩|⟨_,_,h,_⟩<;>omega
 rw[d] at y |-;have q:=gF d;clear d r;go_enter func94,ntmps94;go_wp2
 go_loopw [5] (fun g wr=> ∃k:Nat,k<=n/\g= gE ha k/\Hid (x∉l.take k)/\wr=w) (fun g _=>n - (intOf g).toNat)
 case atStart=>exact⟨0,oM,rfl,gF oC,rfl⟩
 case round=>
  obtain⟨k,E,rfl,m,rfl⟩:=hrel
  by_cases z:k<n
  .
   have b:k<l.length:=by rw[q.o];exact z
   obtain⟨C,H,rfl,hc,-⟩:=A k b;obtain⟨j,a⟩:=nM (l[k]);have u:j∈l:=by rw[<-a];exact cg b
   have s:l.take (k+1)=l.take k++[j]:=by rw[cB b,a]
   rw[a] at hc;have p:=gF (gK u s);clear u s a
   by_cases t:j=x
   . subst t;go_wp2;go_ret;exact⟨by rw[decide_eq_true p.o.1];rfl,rfl⟩
   have v:Hid (x∉l.take (k+1)):=gF (by rw[p.o.2,jD];rintro (h|h);exact m.o h;exact t (lx.1 h).symm);go_wp2;go_roundw;case rel=>exact⟨k+1,oM,oQ,v,trivial⟩
   case measure=>simp[intOf];omega
  obtain rfl:k=n:=oM
  have B:x∉l:=by have:=m.o;rw[cH (by rw[q.o];exact cx _)] at this;exact this
  go_wp2;go_ret;exact⟨by rw[decide_eq_false B];rfl,rfl⟩
def kV (L:List UInt8):Option (List Kv):=
 if (L.getD 1 0).toNat<1\/3<(L.getD 1 0).toNat then ca
 else match jm (L.getD 1 0).toNat (L.drop 2) with
  | none=>ca
  | some ps=>if jg (j5 ps)=L then cz ps else ca
def Ce (o:Option (List Kv)) (w:cr) (e:Ending) (w':cr):Prop:=
 cd w.heap.size w w'/\ ∃po pn pc,e= ht (hG #[hF #[hA po pn pc, hA ca 0 0, gE ha 0], .bool o.isSome])/\ ∀ps,o=cz ps->jf (fun b=>w.heap.size<=b/\b<w'.heap.size) w' [hA po pn pc, hA ca 0 0, gE ha 0] (.mk ps [] 0)
theorem Nd.pW {P:Nd->Prop} (h: ∀n:Nd,(∀k∈n.gC,P k)->P n) (n:Nd):P n:=Nd.ind (fun d b c a=>h (.mk d b c) a) n
inductive Hb:Nat->Nd->Prop
 | mk (h:Nat) (n:Nd) (hk: ∀k∈n.gC,Hb h k):Hb (h+1) n
theorem Hb.kid {n:Nd} (t:Hb h n): ∃g,h=g+1/\ ∀k∈n.gC,Hb g k:=by
 cases t with|mk h _ hk=>exact⟨h,rfl,hk⟩
theorem MV (a: ∀d∈l,d<=h):oy l<=h+1:=by
 cases l with
 | nil=>simp[oy]
 | cons d b=>have:=a d oC;simp only[oy];split;omega;split<;>omega
theorem Hb.dep: ∀{n:Nd} {h:Nat},Hb h n->n.dep<=h:=by
 intro n
 induction n using Nd.pW with
 | h n d=>intro h e;obtain⟨j,rfl,c⟩:=e.kid;rw[n.qi];exact MV fun g b=>by obtain⟨k,a,rfl⟩:=List.mem_map.1 b;exact d k a (c k a)
theorem MW {j:Nat} (a:j<l.length) (b:l[j]≠l[0]' oM):oy l=0:=by
 cases l with
 | nil=>simp at a
 | cons d c=>
  simp only[oy];cases j with
  | zero=>simp at b
  | succ j=>rw[if_pos];rw[cD];exact⟨c[j]'(by simp at a;omega),cg _,by simpa using b⟩
theorem MX (d:0<l.length) (h: ∀j (e:j<l.length),l[j]=l[0]):oy l=if l[0]=0 then 0 else l[0]+1:=by
 cases l with
 | nil=>simp at d
 | cons b m=>simp only[oy];rw[if_neg (c:=m.any (· !=b)=ch)];rfl;rw[cD];rintro⟨x,g,a⟩;obtain⟨j,e,rfl⟩:=cK g;have:=h (j+1) oN;simp at this a;exact a this
theorem mU.sZ {wr:cr} {n:Nd} (h:mU w (il po pc ko kc n) n) (b:cd w.heap.size w wr) (t:i<n.gC.length):
  ∃g a j c1 e c,ko=cz ⟨g,a,ca⟩/\g<wr.heap.size/\n.gC.length<=kc/\wr.cell? ⟨g,a+i * 3,ca⟩=cz (hA j n.gC[i].ps.length c1)/\wr.cell? ⟨g,a+i * 3+1,ca⟩=cz (hA e n.gC[i].gC.length c)/\
   wr.cell? ⟨g,a+i * 3+2,ca⟩=cz (gE ha n.gC[i].page)/\mU wr (il j c1 e c n.gC[i]) n.gC[i]:=by
 obtain⟨g,a,j,c1,e,c,m,d,u,p,q,r,s⟩:=h.kid t;exact⟨g,a,j,c1,e,c,m,iU d b.size,u,by rw[b.cell d];exact p,by rw[b.cell d];exact q,by rw[b.cell d];exact r,s.stays b⟩
theorem ox {n c:Nat} (h:jk o n c):n<=c/\n<=cJ:=by
 rcases h with⟨_,rfl,rfl⟩|⟨_,_,a,b⟩;exact⟨cx _,Nat.zero_le _⟩;exact⟨a,jU a b⟩
theorem mU.lens {n:Nd} (h:mU w (il po pc ko kc n) n):jk po n.ps.length pc/\jk ko n.gC.length kc/\gO (· <w.heap.size) w po (gV n.ps):=by
 generalize a:il po pc ko kc n=cs at h;cases h with|mk ps gC page Py Pz PA nV KC h1 h2 h3 h4 h5 h6=>
  obtain⟨rfl,rfl,rfl,rfl⟩:po=Py/\pc=Pz/\ko=PA/\kc=nV:=by simp only[il,Nd.ps,Nd.gC,Nd.page,List.cons.injEq,Value.slice.injEq,and_true,true_and] at a;exact⟨a.1.1,a.1.2,a.2.1,a.2.2⟩
  exact⟨h1,h3,h2⟩
theorem MZ: ∀(n:Nd) (h:Nat) (po ko:Option Addr) (pc kc:Nat) (w:cr),mU w (il po pc ko kc n) n->Hb h n->h<=1000000->
  cu cj 97 #[hF (il po pc ko kc n).toArray] w fun e w'=>e= ht (gE ha n.dep)/\cd w.heap.size w w':=by
 intro n
 induction n using Nd.pW with
 | h n aC=>
 intro h po ko pc kc w y ap aP;obtain⟨aI,rfl,av⟩:=ap.kid;have ab:=n.qi;obtain⟨m,M⟩:=nM n.gC.length;have Z:il po pc ko kc n=[hA po n.ps.length pc, hA ko m kc, gE ha n.page]:=by unfold il;rw[M]
 obtain⟨R,ay⟩:=nM n.ps.length;obtain⟨P,ax⟩:=nM n.page;rw[ay,ax] at Z;obtain⟨T,ao⟩:=nM n.dep;rw[ao] at ab |-;have aw:=(ox y.lens.2.1).2;unfold cJ at aw;rw[M] at aw;have U:=gF ab;have s:=gF M;have ai:=gF y;have ak:=gF av;have au: ∀i (r:i<n.gC.length) po ko pc kc W,mU W (il po pc ko kc n.gC[i]) n.gC[i]->cu cj 97 #[hF (il po pc ko kc n.gC[i]).toArray] W fun e w'=>e= ht (gE ha n.gC[i].dep)/\cd W.heap.size W w':=
  fun i r po ko pc kc W y=>aC _ (cg r) aI po ko pc kc W y (ak.o _ (cg r)) oM
 have aq: ∀i (r:i<n.gC.length),n.gC[i].dep<=1000000:=fun i r=>by have:=(ak.o _ (cg r)).dep;omega
 have aj:=gF au;have ah:=gF aq;have ae:Bx (w.alloc (hI #[hA po R pc, hA ko m kc, gE ha P] 95)) w.heap.size #[hA po R pc, hA ko m kc, gE ha P] 95:=Bx.new w _ _;rw[Z];clear ab M y av Z ay ax ao au aq aC ap;obtain⟨E,O⟩:=ae.c2
 by_cases aH:m=0
 .
  subst aH;have d:T=1:=by rw[U.o,List.eq_nil_of_length_eq_zero s.o];rfl
  subst d;go_enter func97,ntmps97;go_wp2;go_ret;exact⟨rfl,Below.one _ _⟩
 have aS:((m:Int)==0)=false:=oN
 have H:0<n.gC.length:=by rw[s.o];omega
 obtain⟨c,J⟩:=nM ((n.gC[0]'H).dep);have aN:c<=1000000:=by rw[<-J];exact ah.o 0 H
 have D:=gF J;have I:cd w.heap.size w (w.alloc (hI #[hA po R pc, hA ko m kc, gE ha P] 95)):=Below.one _ _;obtain⟨an,aD,ad,X,ac,Y,rfl,ar,aK,t,u,v,z⟩:=ai.o.sZ I H;have b:=aj.o 0 H ad ac X Y _ z;rw[J] at b;unfold il at b;have g:=gF b;simp only[Nat.zero_mul,Nat.add_zero] at t u v;rw[s.o] at aK;clear b z J;go_enter func97,ntmps97;go_wp2_with fail;refine g.o.mono ?_;rintro e aU ⟨rfl,aa⟩;have a:=I.trans (Below.mono aa I.size);have aE:=ae.gD aa;clear E O t u v aa I ae g ar;go_wp2
 go_loopw [4] (fun i wr=> ∃k:Nat,1<=k/\k<=m/\i= gE ha k/\Hid (∀j (p:j<n.gC.length),j<k->n.gC[j].dep=c)/\Bx wr w.heap.size #[hA po R pc, hA (cz ⟨an,aD,ca⟩) m kc, gE ha P] 95/\cd w.heap.size w wr) (fun i _=>m - (intOf i).toNat)
 case atStart=>exact⟨1,oM,oM,rfl,gF (fun j p aJ=>by
  obtain rfl:j=0:=oM
  exact D.o),aE,a⟩
 case round=>
  clear aE a;obtain⟨k,aR,aQ,rfl,af,x,a⟩:=hrel;obtain⟨E,O⟩:=x.c2;have aA:=a.size
  by_cases aL:k<m
  .
   have A:k<n.gC.length:=by rw[s.o];exact aL
   obtain⟨aG,j8,ad,X,ac,Y,am,ar,-,t,u,v,z⟩:=ai.o.sZ a A;obtain⟨rfl,rfl⟩:an=aG/\aD=j8:=by simpa using am
   have b:=aj.o k A ad ac X Y _ z;obtain⟨al,L⟩:=nM ((n.gC[k]'A).dep);have aO:al<=1000000:=by rw[<-L];exact ah.o k A
   rw[L] at b;unfold il at b;have g:=gF b;have ag:=gF L;have B:=gF a;have V:=gF x;clear b z L am a x;cases az:((al:Int)!=(c:Int));.
    have aF:Hid (∀j (p:j<n.gC.length),j<k+1->n.gC[j].dep=c):=gF (fun j p aJ=>by
     by_cases e:j=k
     subst e;rw[ag.o];have:=az;simp at this;omega;exact af.o j p oM)
    go_wp2_with fail;refine g.o.mono ?_;rintro e aM ⟨rfl,q⟩;have C:=gF (gK (V.o.gD q) (Below.then B.o q aA));clear B g V t u v E O q;go_wp2;go_roundw;case rel=>exact⟨k+1,oM,oM,oQ,aF,C.o.1,C.o.2⟩
    case measure=>simp[intOf];omega
   have d:T=0:=by rw[U.o];refine MW (j:=k) (by simp;exact A) ?_;simp only[cC,ag.o,D.o];have:=az;simp at this;omega
   subst d;go_wp2_with fail;refine g.o.mono ?_;rintro e aM ⟨rfl,q⟩;have C:=gF (Below.then B.o q aA);clear B g V t u v E O q;go_wp2;go_ret;exact⟨rfl,C.o⟩
  obtain rfl:k=m:=oM
  have d:T=if c=0 then 0 else c+1:=by rw[U.o,MX oN];simp only[cC,D.o];intro j p;simp only[cC,D.o];exact af.o j (by simpa using p) (by rw[List.length_map,s.o] at p;omega)
  by_cases aB:c=0
  . subst aB;rw[if_pos rfl] at d;subst d;go_wp2;go_ret;exact⟨rfl,a⟩
  rw[if_neg aB] at d;subst d;have aT:((c:Int)==0)=false:=oN
  go_wp2;go_ret;exact⟨oC,a⟩
theorem yf {α:Type} {l:List α}:l=[]↔l.length=0:=List.length_eq_zero_iff.symm
theorem F6 (n:Nd) (po ko:Option Addr) (pc kc:Nat) (w:cr) (m:mU w (il po pc ko kc n) n):
  cu cj 136 #[hF (il po pc ko kc n).toArray] w fun e w'=>e= ht (.bool n.iX)/\cd w.heap.size w w':=by
 have r:=(ox m.lens.2.1).2;have s:=(ox m.lens.1).2;unfold cJ at r s;obtain⟨b,d⟩:=nM n.iX;rw[d];unfold il
 by_cases c:n.gC.length=0
 focus
  have a:decide (n.ps.length<2)=b:=by rw[<-d,Nd.iX,if_pos (yf.2 c)]
  rw[c];obtain⟨p,j⟩:=nM n.ps.length;rw[j] at a |-;clear d c j m;have g:decide ((p:Int)<2)=b:=by rw[<-a];simp;omega
  have q:=gF g;clear a g
 rotate_left;focus
  have a:decide (n.gC.length<4)=b:=by rw[<-d,Nd.iX,if_neg fun e=>c (yf.1 e)]
  obtain⟨p,j⟩:=nM n.gC.length;rw[j] at a c |-;have t:((p:Int)==0)=false:=oN
  have g:decide ((p:Int)<4)=b:=by rw[<-a];simp;omega
  have q:=gF g;clear d c j m a g
 all_goals go_enter func136,ntmps136;go_wp2;go_ret;exact⟨by rw[<-q.o];rfl,Below.one _ _⟩
theorem M0: ∀(n:Nd) (po ko:Option Addr) (pc kc:Nat) (w:cr),mU w (il po pc ko kc n) n->
  cu cj 98 #[hF (il po pc ko kc n).toArray] w fun e w'=>e= ht (.bool n.kj)/\cd w.heap.size w w':=by
 intro n
 induction n using Nd.pW with
 | h n ar=>
 intro po ko pc kc w p;have V:=n.oz;obtain⟨m,C⟩:=nM n.gC.length;have R:il po pc ko kc n=[hA po n.ps.length pc, hA ko m kc, gE ha n.page]:=by unfold il;rw[C]
 obtain⟨ac,ap⟩:=nM n.ps.length;obtain⟨ab,ao⟩:=nM n.page;rw[ap,ao] at R;obtain⟨ad,al⟩:=nM n.kj;rw[al] at V |-;have D:=(ox p.lens.2.1);unfold cJ at D;rw[C] at D;obtain⟨aL,D⟩:=D;have ag:=gF V;have ah:=gF C;have az:=gF p;have an: ∀i (am:i<n.gC.length) po ko pc kc W,mU W (il po pc ko kc n.gC[i]) n.gC[i]->cu cj 98 #[hF (il po pc ko kc n.gC[i]).toArray] W fun e w'=>e= ht (.bool n.gC[i].kj)/\cd W.heap.size W w':=
  fun i am po ko pc kc W p=>ar _ (cg am) po ko pc kc W p
 have aA:=gF an;have ay:Bx (w.alloc (hI #[hA po ac pc, hA ko m kc, gE ha ab] 95)) w.heap.size #[hA po ac pc, hA ko m kc, gE ha ab] 95:=Bx.new w _ _;rw[R];clear V C p R ap ao al an ar;go_enter func98,ntmps98;go_wp2
 go_loopw [3] (fun i wr=> ∃k:Nat,k<=m/\i= gE ha k/\Hid (∀a (c:a<n.gC.length),a<k->(n.gC[a].iX||n.gC[a].kj)=ck)/\Bx wr w.heap.size #[hA po ac pc, hA ko m kc, gE ha ab] 95/\cd w.heap.size w wr) (fun i _=>m - (intOf i).toNat)
 case atStart=>exact⟨0,oM,rfl,gF fun a c aF=>oM,ay,Below.one _ _⟩
 case round=>
  clear ay;obtain⟨k,aK,rfl,ae,x,j⟩:=hrel;obtain⟨y,E⟩:=x.c2;have aq:=j.size
  by_cases aG:k<m
  .
   have r:k<n.gC.length:=by rw[ah.o];exact aG
   obtain⟨P,aa,av,ai,au,aj,rfl,B,-,L,M,O,T⟩:=az.o.sZ j r;have z:=F6 n.gC[k] av au ai aj _ T;have A: ∀W,cd wr.heap.size wr W->_:=fun W aE=>aA.o k r av au ai aj W (T.stays aE);obtain⟨aw,X⟩:=nM ((n.gC[k]'r).iX);obtain⟨ax,Y⟩:=nM ((n.gC[k]'r).kj);rw[X] at z;rw[Y] at A;unfold il at z A;have u:=gF z;have I:=gF A;have v:=gF (gK X Y);have t:=gF j;have J:=gF x;clear z A T X Y j x;have q:(aw||ax)=ch->Hid (ad=ch):=fun h=>gF (by
    rw[ag.o,cD];exact⟨_,cg r,by rw[v.o.1,v.o.2];exact h⟩)
   cases aw with
   | true=>have g:=q rfl;clear q;go_wp2_with fail;refine u.o.mono ?_;rintro e s ⟨rfl,b⟩;have d:=gF (Below.then t.o b aq);clear t u I J L M O y E b;go_wp2;go_ret;exact⟨by rw[g.o];rfl,d.o⟩
   | false=>
    go_wp2_with fail;refine u.o.mono ?_;rintro e s ⟨rfl,b⟩;have aB:s.cell? ⟨P,aa+k * 3,ca⟩=_:=(b.cell B).trans L;have aC:s.cell? ⟨P,aa+k * 3+1,ca⟩=_:=(b.cell B).trans M;have aD:s.cell? ⟨P,aa+k * 3+2,ca⟩=_:=(b.cell B).trans O;have aJ:=iU B b.size;have Z:=J.o.gD b;have ak:=Below.then t.o b aq;have af:=gF (I.o s b);have d:=gF (gK Z ak);clear t u I J L M O y E b;obtain⟨y,E⟩:=Z.c2;clear Z ak;go_wp2_with fail;refine af.o.mono ?_;rintro e aM ⟨rfl,U⟩;have H:=gF (gK (d.o.1.gD U) (Below.then d.o.2 U (by have:=d.o.2.size;omega)));clear aB aC aD y E U af d;cases ax with
    | true=>have g:=q rfl;clear q;go_wp2;go_ret;exact⟨by rw[g.o];rfl,H.o.2⟩
    | false=>
     have g:Hid (∀a (c:a<n.gC.length),a<k+1->(n.gC[a].iX||n.gC[a].kj)=ck):=gF (fun a c aF=>by
      by_cases e:a=k
      subst e;rw[v.o.1,v.o.2];rfl;exact ae.o a c oM)
     clear q;go_wp2;go_roundw;case rel=>exact⟨k+1,oM,oQ,g,H.o.1,H.o.2⟩
     case measure=>simp[intOf];omega
  obtain rfl:k=m:=oM
  have aH:Hid (ad=ck):=gF (by
   rw[ag.o,List.any_eq_false];intro x aI;obtain⟨a,c,rfl⟩:=cK aI;rw[ae.o a c (by rw[ah.o] at c;exact c)]
   simp)
  go_wp2;go_ret;exact⟨by rw[aH.o];rfl,j⟩
def oL (n:Nd) (k:Nat):List Kv:=((n.gC.take k).map Nd.iv).flatten
theorem M4 {n:Nd} (h:k<n.gC.length):oL n (k+1)=oL n k++n.gC[k].iv:=by
 unfold oL;rw[cB h,List.map_append,cL];simp
theorem M5 {n:Nd} (h:n.gC.length=k) (b:k≠0):oL n k=n.iv:=by
 unfold oL;rw[cH oM,Nd.iu fun a=>b (by rw[<-h,a];rfl)]
theorem M6 {n:Nd} (b:n.gC.length≠0):(oL n k).length<=n.iv.length:=by
 rw[Nd.iu fun a=>b (by rw[a];rfl)];unfold oL
 conv=>rhs;rw[<-List.take_append_drop k n.gC,List.map_append,cL,iI]
 omega
theorem F7: ∀(n:Nd) (po ko:Option Addr) (pc kc:Nat) (w:cr),mU w (il po pc ko kc n) n->n.iv.length<=1000000->
  cu cj 64 #[hF (il po pc ko kc n).toArray] w fun e w'=> ∃o c,e= ht (hA o n.iv.length c)/\jk o n.iv.length c/\gO (· <w'.heap.size) w' o (gV n.iv)/\cd w.heap.size w w':=by
 intro n
 induction n using Nd.pW with
 | h n aB=>
 intro po ko pc kc w p aw;obtain⟨aO,aq,az,aA,D⟩:=info_parts sy;have s:=gF (gK aq (gK az (gK aA D)));clear aq az aA D;obtain⟨m,A⟩:=nM n.gC.length;have R:il po pc ko kc n=[hA po n.ps.length pc, hA ko m kc, gE ha n.page]:=by unfold il;rw[A]
 obtain⟨H,aa⟩:=nM n.ps.length;obtain⟨ab,av⟩:=nM n.page;rw[aa,av] at R;have B:=(ox p.lens.2.1);unfold cJ at B;rw[A] at B;obtain⟨a0,B⟩:=B;have t:=gF A;have af:=gF aa;have L:=gF p;obtain⟨T,U⟩:=nM n.iv.length;have aW:Hid (n.iv.length<=1000000):=gF aw;rw[U] at aw |-;have J:=gF U;have ap: ∀i (ao:i<n.gC.length) po ko pc kc W,mU W (il po pc ko kc n.gC[i]) n.gC[i]->n.gC[i].iv.length<=1000000->cu cj 64 #[hF (il po pc ko kc n.gC[i]).toArray] W fun e w'=> ∃o c,e= ht (hA o n.gC[i].iv.length c)/\jk o n.gC[i].iv.length c/\gO (· <w'.heap.size) w' o (gV n.gC[i].iv)/\cd W.heap.size W w':=
  fun i ao po ko pc kc W p hp=>aB _ (cg ao) po ko pc kc W p hp
 have aC:=gF ap;have I:Bx (w.alloc (hI #[hA po H pc, hA ko m kc, gE ha ab] 95)) w.heap.size #[hA po H pc, hA ko m kc, gE ha ab] 95:=Bx.new w _ _;rw[R];clear A p R aa av U ap aB
 by_cases O:m=0
 .
  subst O;have Y:n.gC=[]:=yf.2 t.o;have Z:=Nd.iJ Y;have aM:H=T:=by rw[<-af.o, <-J.o,Z]
  have aD:=gF Z;subst aM;clear Y Z;obtain⟨v,E⟩:=I.c2;go_enter func64,ntmps64;go_wp2;go_ret;refine⟨_,_,rfl,by have:=L.o.lens.1;rw[af.o] at this;exact this,?_,Below.one _ _⟩;rw[aD.o];exact(L.o.lens.2.2.below (Below.one _ _)).mono fun aE am=>oN
 have aZ:((m:Int)==0)=false:=oN
 obtain⟨v,E⟩:=I.c2;go_enter func64,ntmps64;go_wp2;clear v E
 go_loopw [3,4] (fun aV i wr=> ∃(k:Nat) (o:Option Addr) (c:Nat),k<=m/\i= gE ha k/\aV= hA o (oL n k).length c/\wr.ownsRow w.heap.size 77 2 (hA o (oL n k).length c) (oL n k).length (gV (oL n k))/\Bx wr w.heap.size #[hA po H pc, hA ko m kc, gE ha ab] 95/\cd w.heap.size w wr) (fun _ i _=>m - (intOf i).toNat)
 case atStart=>refine⟨0,_,_,oM,rfl,rfl,tu _ _ _ _ _ oC oM,I.alloc _,(Below.one _ _).alloc oC _⟩
 case round=>
  clear I;obtain⟨k,o,c,Y,rfl,rfl,a,x,j⟩:=hrel;obtain⟨v,E⟩:=x.c2;have aN:=j.size
  by_cases aL:k<m
  .
   have z:k<n.gC.length:=by rw[t.o];exact aL
   obtain⟨aX,a1,aS,aF,aP,aH,rfl,aY,-,aI,aJ,aK,al⟩:=L.o.sZ j z;have b:=M4 z;have r:=M6 (k:=k+1) (by rw[t.o];exact O:n.gC.length≠0);rw[J.o,b,iI] at r;have q:=aC.o k z aS aP aF aH _ al oM;obtain⟨ac,aj⟩:=nM ((n.gC[k]'z).iv);obtain⟨F,ak⟩:=nM (oL n k);rw[aj] at q r b;rw[ak] at a r b |-;obtain⟨cl,V⟩:=nM ac.length;obtain⟨M,X⟩:=nM F.length;rw[V] at q r;rw[X] at a r |-;unfold il at q;have ae:=gF q;have g:=gF (gK b (gK V X));have ad:=gF j;have ah:=gF x;have u:=gF a;clear q al b j x a aj ak V X;go_wp2_with fail;refine ae.o.mono ?_;rintro e a3 ⟨aU,aT,rfl,ax,C,y⟩;have ar:=nD u.o y;have ay:=ah.o.gD y;have P:=Below.then ad.o y aN;have D:=P.size;have ag:=gF (gK ax.nil C);have d:=gF (gK ay (gK P ar));clear ad ae ah u aI aJ aK v E y ax C ay P ar;go_wp2_with (at_builtin;refine o8 rfl _ _ 41 rfl w.heap.size 77 aO _ 2 32 cM s.o.1 s.o.2.1 s.o.2.2.1 s.o.2.2.2 rfl oF (.slice o M c) M (gV F) rfl d.o.2.2 aU cl aT (gV ac) rfl ag.o.1 (by rw[uJ,g.o.2.1]) ag.o.2 (tT _) (by unfold cJ;omega) oM oM ?_;intro a2 a4 au an;obtain⟨aR,aG,rfl⟩:=pD au);go_roundw;case rel=>
    have ai:(oL n (k+1)).length=M+cl:=by rw[g.o.1,iI,g.o.2.1,g.o.2.2]
    refine⟨k+1,aR,aG,oM,oQ,by rw[ai],?_,d.o.1.grown an fun e=>nu d.o.2.2 d.o.1 oF e.symm,Below.jq d.o.2.1 d.o.2.2 an D⟩;rw[ai,g.o.1,sw];exact au
   case measure=>simp[intOf];omega
  obtain rfl:k=m:=oM
  rw[M5 t.o O,J.o] at a |-;have u:=gF a;clear a;go_wp2;go_ret;obtain⟨aQ,c',e,b,C,-⟩:=nC u.o;obtain⟨rfl,rfl⟩:o=aQ/\c=c':=by simpa using e
  exact⟨_,_,rfl,b,C.mono fun aE am=>am.2,j⟩
theorem F8 {L k r:List UInt8} (h:kH (L.drop i)=cz (k,r)):r=L.drop (i+1+k.length)/\i+1+k.length<=L.length/\k.length<=255:=by
 cases a:L.drop i with
 | nil=>rw[a] at h;cases h
 | cons b c=>
  rw[a] at h;have e:=congrArg List.length a;rw[List.length_drop,j1] at e;simp only[kH] at h;split at h;cases h;rename_i j;simp only[Option.some.injEq,Prod.mk.injEq] at h;obtain⟨rfl,rfl⟩:=h;have d:(c.take b.toNat).length=b.toNat:=by rw[List.length_take];omega
  have g:c=L.drop (i+1):=by have:=congrArg List.tail a;rw[List.tail_drop] at this;exact this.symm
  rw[d];refine⟨?_,oM,by have:=b.toNat_lt;omega⟩;rw[g,List.drop_drop]
theorem zV (l:List UInt8):(bs l).toList=l:=by rw[ByteArray.toList_eq]
theorem M7 (L:List UInt8) (w:cr) (aX:L.length=512):
  cu cj 95 #[hE (bs L)] w (Ce (kV L) w):=by
 obtain⟨bK,bc,P,bi,bj⟩:=info_parts sy;have aA:=gF (gK bc (gK P (gK bi bj)));clear bc P bi bj;obtain⟨bP,aQ⟩:=nM (Ce (kV L) w);rw[aQ];have an:=gF aQ;obtain⟨ag,X⟩:=nM (bs L);have b4:ag.size=512:=by rw[<-X,lM];exact aX
 obtain⟨cb,aS⟩:=nM (L.getD 1 0);have z:(h:1<ag.size)->ag[1]=cb:=by subst X;intro h;rw[vQ _ _ oM, <-aS,List.getD_eq_getElem?_getD,List.getElem?_eq_getElem oM];rfl
 obtain⟨cnt,aT⟩:=nM cb.toNat;have bY:(ag[1]' oM).toNat=cnt:=by rw[z oM];exact aT
 have bb:(L.getD 1 0).toNat=cnt:=by rw[aS];exact aT
 have bg: ∀(i:Nat) (W:cr),i<=1000000->cu cj 133 #[hE ag, gE ha i] W fun g w'=>g= ht (lD L i)/\w'=W:=fun i W bF=>X▸Ju L i W oM bF;have a6:=gF bg;have bz:=gF X;have ak:=gF bb;have bv:=gF aX;rw[X];obtain⟨N,a9⟩:=nM w.heap.size;clear aQ X z aT aS bb bg aX;go_enter func95,ntmps95;go_upto_region 2 with fail
 obtain⟨W0,aq⟩:=nM ((w.alloc (hI #[hA ca 0 0, hA ca 0 0, gE ha 0] 95)).alloc (hI #[hA ca 0 0, hA ca 0 0, gE ha 0] 95));rw[aq];have q:cd w.heap.size w W0:=by subst aq;exact(Below.one w _).alloc oC _
 have m:Bx W0 N #[hA ca 0 0, hA ca 0 0, gE ha 0] 95:=by subst aq a9;exact(Bx.new w _ _).alloc _
 have p:Bx W0 (N+1) #[hA ca 0 0, hA ca 0 0, gE ha 0] 95:=by subst aq a9;exact Bx.ir _ _ _ _ oC
 clear aq;obtain⟨C,E,D⟩:=m.c3;obtain⟨u,B⟩:=p.c2
 by_cases bD:cnt<1
 .
  have I:Hid (kV L=ca):=gF (by(unfold kV;rw[ak.o,if_pos (.inl bD)]));obtain⟨Wf,b⟩:=nM (((W0.setCell ⟨N,0,ca⟩ (hA ca 0 0)).setCell ⟨N,1,ca⟩ (hA ca 0 0)).setCell ⟨N,2,ca⟩ (gE ha 0));have t:Bx Wf N #[hA ca 0 0, hA ca 0 0, gE ha 0] 95:=by rw[<-b];have:=((m.set 0 (hA ca 0 0)).set 1 (hA ca 0 0)).set 2 (gE ha 0);simpa using this
  have s:cd w.heap.size w Wf:=by rw[<-b];exact iT (iT (iT q oM) oM) oM
  have n:=gF (gK t s);have U:=gF b;clear t s b;go_wp2;rw[U.o];have M:=n.o.1.cell;refine cm (v:= hG #[hF #[hA ca 0 0, hA ca 0 0, gE ha 0], .bool ck]) (by simp[cw,cn,go_sem,M]) rfl ?_;rw[<-an.o,I.o];exact⟨n.o.2,_,_,_,rfl,fun ps h=>by cases h⟩
 by_cases bE:3<cnt
 .
  have I:Hid (kV L=ca):=gF (by(unfold kV;rw[ak.o,if_pos (.inr bE)]));obtain⟨Wf,b⟩:=nM (((W0.setCell ⟨N,0,ca⟩ (hA ca 0 0)).setCell ⟨N,1,ca⟩ (hA ca 0 0)).setCell ⟨N,2,ca⟩ (gE ha 0));have t:Bx Wf N #[hA ca 0 0, hA ca 0 0, gE ha 0] 95:=by rw[<-b];have:=((m.set 0 (hA ca 0 0)).set 1 (hA ca 0 0)).set 2 (gE ha 0);simpa using this
  have s:cd w.heap.size w Wf:=by rw[<-b];exact iT (iT (iT q oM) oM) oM
  have n:=gF (gK t s);have U:=gF b;clear t s b;go_wp2;rw[U.o];have M:=n.o.1.cell;refine cm (v:= hG #[hF #[hA ca 0 0, hA ca 0 0, gE ha 0], .bool ck]) (by simp[cw,cn,go_sem,M]) rfl ?_;rw[<-an.o,I.o];exact⟨n.o.2,_,_,_,rfl,fun ps h=>by cases h⟩
 have bZ:cnt<=3:=oM
 go_upto_region 6 with fail
 clear C E D u B
 go_loopw [5,6] (fun at_ i wr=> ∃(k H:Nat) (ps:List Kv) (o:Option Addr) (e:Nat),k<=cnt/\i= gE ha k/\at_= gE ha H/\H<=512/\Hid (jm cnt (L.drop 2)=(jm (cnt - k) (L.drop H)).map (ps++ ·)/\ps.length=k)/\
  Bx wr N #[hA ca 0 0, hA ca 0 0, gE ha 0] 95/\Bx wr (N+1) #[hA o k e, hA ca 0 0, gE ha 0] 95/\wr.ownsRow w.heap.size 77 2 (hA o k e) k (gV ps)/\cd w.heap.size w wr) (fun _ i _=>cnt - (intOf i).toNat)
 case atStart=>refine⟨0,2,[],ca,0,oM,rfl,rfl,oM,gF ⟨oC,rfl⟩,m,p,World.ownsRow_nil _ _ _ _,q⟩
 case round=>
  clear m p q;obtain⟨k,H,ps,o,e,b0,rfl,rfl,hp,ai,m,p,ar,q⟩:=hrel;have P:=q.size
  by_cases b1:k<cnt
  .
   obtain⟨Z,a'⟩:=nM wr.heap.size;have bu:=gF a';have bB:=Below.one wr (hI #[hE ByteArray.empty, hE ByteArray.empty] 77);have c:=gF (gK m (gK p (gK ar q)));have bW:N+1<Z:=by have:=p.lt;omega
   have bX:N<Z:=oM
   have af:=a6.o H;clear a' bB m p ar q;cases z:kH (L.drop H)
   case' none=>
    have av:lD L H= hG #[hE (bs []), gE ha (-1)]:=by unfold lD;rw[z]
    rw[av] at af;have bG:=fun W=>Jt ag W (-1) oM;go_wp2_with fail;refine(af _ oM).mono ?_;rintro g aB ⟨rfl,rfl⟩;go_wp2_with fail;refine(bG _).mono ?_;rintro g W2 ⟨rfl,rfl⟩;go_upto_region 12 with fail
    have d:=Below.one wr (hI #[hE (bs []), hE (bs [])] 77);obtain⟨J,A⟩:=nM (wr.alloc (hI #[hE (bs []), hE (bs [])] 77));rw[A] at d |-;have m:=c.o.1.gD d;have p:=c.o.2.1.gD d;have q:=Below.then c.o.2.2.2 d P;clear A d;obtain⟨C,E,D⟩:=m.c3;obtain⟨u,B⟩:=p.c2;have I:Hid (kV L=ca):=gF (by(unfold kV;rw[ak.o,if_neg oM,ai.o.1,uL oM (by unfold kI;rw[z])];rfl))
   rotate_left
   case' some q1=>
    obtain⟨ax,b7⟩:=q1;obtain⟨ae,aH,aV⟩:=F8 z;have av:lD L H= hG #[hE (bs ax), gE ha ((H+1+ax.length:Nat):Int)]:=by unfold lD;rw[z]
    obtain⟨am,aI⟩:=nM (H+1+ax.length);obtain⟨K,hK⟩:=nM (bs ax);have aN:K.size=ax.length:=by rw[<-hK,lM]
    rw[aI] at ae aH av;rw[hK] at av;rw[av] at af;have aO:=bv.o;have b2:am<=512:=oM
    have al:=a6.o am;cases V:kH (L.drop am)
    case' none=>
     have aw:lD L am= hG #[hE (bs []), gE ha (-1)]:=by unfold lD;rw[V]
     rw[aw] at al;go_wp2_with fail;refine(af _ oM).mono ?_;rintro g aB ⟨rfl,rfl⟩;go_wp2_with fail;refine(al _ oM).mono ?_;rintro g W2 ⟨rfl,rfl⟩;go_upto_region 12 with fail
     have d:=Below.one wr (hI #[hE K, hE (bs [])] 77);obtain⟨J,A⟩:=nM (wr.alloc (hI #[hE K, hE (bs [])] 77));rw[A] at d |-;have m:=c.o.1.gD d;have p:=c.o.2.1.gD d;have q:=Below.then c.o.2.2.2 d P;clear A d;obtain⟨C,E,D⟩:=m.c3;obtain⟨u,B⟩:=p.c2;have I:Hid (kV L=ca):=gF (by(unfold kV;rw[ak.o,if_neg oM,ai.o.1,uL oM (by unfold kI;rw[z];simp only;rw[ae,V])];rfl))
    rotate_left
    case' some q2=>
     obtain⟨az,b8⟩:=q2;obtain⟨au,aJ,a1⟩:=F8 V;have aw:lD L am= hG #[hE (bs az), gE ha ((am+1+az.length:Nat):Int)]:=by unfold lD;rw[V]
     obtain⟨ay,aK⟩:=nM (am+1+az.length);obtain⟨j,ao⟩:=nM (bs az);have aR:j.size=az.length:=by rw[<-ao,lM]
     rw[aK] at au aJ aw;rw[ao] at aw;rw[aw] at al;have bI:ay<=512:=oM
     have b3: ¬(ay:Int)<0:=oM
     by_cases bU:48<K.size
     .
      have aL:Hid (kI (L.drop H)=ca):=gF (by unfold kI;rw[z];simp only;rw[ae,V];simp only;rw[if_pos (.inl oM)]);clear z V ae au hK ao aI aK aN aR aV a1 aO aH aJ;go_wp2_with fail;refine(af _ oM).mono ?_;rintro g aB ⟨rfl,rfl⟩;go_wp2_with fail;refine(al _ oM).mono ?_;rintro g W2 ⟨rfl,rfl⟩;go_upto_region 12 with fail
      have d:=Below.one wr (hI #[hE K, hE j] 77);obtain⟨J,A⟩:=nM (wr.alloc (hI #[hE K, hE j] 77));rw[A] at d |-;have m:=c.o.1.gD d;have p:=c.o.2.1.gD d;have q:=Below.then c.o.2.2.2 d P;clear A d;obtain⟨C,E,D⟩:=m.c3;obtain⟨u,B⟩:=p.c2;have I:Hid (kV L=ca):=gF (by(unfold kV;rw[ak.o,if_neg oM,ai.o.1,uL oM aL.o];rfl));obtain⟨Wf,b⟩:=nM (((J.setCell ⟨N,0,ca⟩ (hA o k e)).setCell ⟨N,1,ca⟩ (hA ca 0 0)).setCell ⟨N,2,ca⟩ (gE ha 0));have t:Bx Wf N #[hA o k e, hA ca 0 0, gE ha 0] 95:=by rw[<-b];have:=((m.set 0 (hA o k e)).set 1 (hA ca 0 0)).set 2 (gE ha 0);simpa using this
      have s:cd w.heap.size w Wf:=by rw[<-b];exact iT (iT (iT q oM) oM) oM
      have n:=gF (gK t s);have U:=gF b;clear t s b;go_wp2;rw[U.o];have M:=n.o.1.cell;refine cm (v:= hG #[hF #[hA o k e, hA ca 0 0, gE ha 0], .bool ck]) (by simp[cw,cn,go_sem,M]) rfl ?_;rw[<-an.o,I.o];exact⟨n.o.2,_,_,_,rfl,fun ps h=>by cases h⟩
     by_cases bV:80<j.size
     .
      have aL:Hid (kI (L.drop H)=ca):=gF (by unfold kI;rw[z];simp only;rw[ae,V];simp only;rw[if_pos (.inr oM)]);clear z V ae au hK ao aI aK aN aR aV a1 aO aH aJ;go_wp2_with fail;refine(af _ oM).mono ?_;rintro g aB ⟨rfl,rfl⟩;go_wp2_with fail;refine(al _ oM).mono ?_;rintro g W2 ⟨rfl,rfl⟩;go_upto_region 12 with fail
      have d:=Below.one wr (hI #[hE K, hE j] 77);obtain⟨J,A⟩:=nM (wr.alloc (hI #[hE K, hE j] 77));rw[A] at d |-;have m:=c.o.1.gD d;have p:=c.o.2.1.gD d;have q:=Below.then c.o.2.2.2 d P;clear A d;obtain⟨C,E,D⟩:=m.c3;obtain⟨u,B⟩:=p.c2;have I:Hid (kV L=ca):=gF (by(unfold kV;rw[ak.o,if_neg oM,ai.o.1,uL oM aL.o];rfl));obtain⟨Wf,b⟩:=nM (((J.setCell ⟨N,0,ca⟩ (hA o k e)).setCell ⟨N,1,ca⟩ (hA ca 0 0)).setCell ⟨N,2,ca⟩ (gE ha 0));have t:Bx Wf N #[hA o k e, hA ca 0 0, gE ha 0] 95:=by rw[<-b];have:=((m.set 0 (hA o k e)).set 1 (hA ca 0 0)).set 2 (gE ha 0);simpa using this
      have s:cd w.heap.size w Wf:=by rw[<-b];exact iT (iT (iT q oM) oM) oM
      have n:=gF (gK t s);have U:=gF b;clear t s b;go_wp2;rw[U.o];have M:=n.o.1.cell;refine cm (v:= hG #[hF #[hA o k e, hA ca 0 0, gE ha 0], .bool ck]) (by simp[cw,cn,go_sem,M]) rfl ?_;rw[<-an.o,I.o];exact⟨n.o.2,_,_,_,rfl,fun ps h=>by cases h⟩
     have bf:kI (L.drop H)=cz ((K,j),L.drop ay):=by unfold kI;rw[z];simp only;rw[ae,V];simp only;rw[if_neg oM,hK,ao,au]
     have I:Hid (jm cnt (L.drop 2)=(jm (cnt - (k+1)) (L.drop ay)).map ((ps++[(K,j)])++ ·)/\(ps++[(K,j)]).length=k+1):=gF ⟨by
      rw[ai.o.1,DY oM bf,show cnt - k - 1=cnt - (k+1) by omega,Option.map_map];congr 1;funext y
      simp,by rw[iI,ai.o.2];rfl⟩
     clear z V ae au hK ao aI aK aN aR aV a1 aO aH aJ bf;go_wp2_with fail;refine(af _ oM).mono ?_;rintro g aB ⟨rfl,rfl⟩;go_wp2_with fail;refine(al _ oM).mono ?_;rintro g W2 ⟨rfl,rfl⟩;go_upto_region 13 with fail
     have d:=Below.one wr (hI #[hE K, hE j] 77);have a4:=Bx.new wr #[hE K, hE j] 77;obtain⟨J,A⟩:=nM (wr.alloc (hI #[hE K, hE j] 77));rw[A] at d a4 |-;rw[bu.o] at a4 |-;have bN:=c.o.1.gD d;have bn:=c.o.2.1.gD d;have bH:=nD c.o.2.2.1 d;have a8:=Below.then c.o.2.2.2 d P;clear A d af al c;have bJ:=a8.size;obtain⟨u,B,bS⟩:=bn.c3;obtain⟨bR,b6⟩:=a4.c2;have bq:Hid (∀bl∈[Value.string K,Value.string j],bl.oneCell'=ch):=gF (by intro bl bh;simp at bh;rcases bh with rfl|rfl<;>rfl)
     have bt:Hid (gO (· =J.heap.size) (J.alloc (.cells #[.string K, .string j] 77)) (cz ⟨J.heap.size,0,ca⟩) [.string K, .string j]):=gF (gO.bx (Bx.new J #[.string K, .string j] 77));have aG:=bH.alloc (.cells #[.string K, .string j] 77);have bo:=bn.alloc (.cells #[.string K, .string j] 77);have bm:=bN.alloc (.cells #[.string K, .string j] 77);have bC:=a8.alloc bJ (.cells #[.string K, .string j] 77);go_wp2_with (at_builtin;refine o8 rfl _ _ 41 rfl w.heap.size 77 bK _ 2 32 cM aA.o.1 aA.o.2.1 aA.o.2.2.1 aA.o.2.2.2 rfl oF (.slice o k e) k (gV ps) rfl aG (cz ⟨J.heap.size,0,ca⟩) 1 1 [.string K, .string j] rfl (by intro g;cases g) rfl bt.o bq.o (by unfold cJ;omega) oM oN ?_;intro b9 b' aY aU;obtain⟨bk,a7,rfl⟩:=pD aY;have a3:=bo.grown aU fun g=>nu aG bo oF g.symm;have bM:=bm.grown aU fun g=>nu aG bm oF g.symm;obtain⟨bQ,b5,bT⟩:=a3.c3);go_roundw;case rel=>
      refine⟨k+1,ay,ps++[(K,j)],bk,a7,oM,oQ,rfl,bI,I,?_,?_,?_,?_⟩;exact bM.jc (a:=⟨N+1,0,ca⟩) oC _;have:=a3.set 0 (hA bk (k+1) a7);simpa using this;have g:gV (ps++[(K,j)])=gV ps++[hE K, hE j]:=by rw[sw];rfl
      rw[g];exact oX aY (a:=⟨N+1,0,ca⟩) (nu aY a3 oF) _;exact iT (Below.jq bC aG aU oN) oM
     case measure=>simp[intOf];omega
   all_goals
    obtain⟨Wf,b⟩:=nM (((J.setCell ⟨N,0,ca⟩ (hA o k e)).setCell ⟨N,1,ca⟩ (hA ca 0 0)).setCell ⟨N,2,ca⟩ (gE ha 0));have t:Bx Wf N #[hA o k e, hA ca 0 0, gE ha 0] 95:=by rw[<-b];have:=((m.set 0 (hA o k e)).set 1 (hA ca 0 0)).set 2 (gE ha 0);simpa using this
    have s:cd w.heap.size w Wf:=by rw[<-b];exact iT (iT (iT q oM) oM) oM
    have n:=gF (gK t s);have U:=gF b;clear t s b;go_wp2;rw[U.o];have M:=n.o.1.cell;refine cm (v:= hG #[hF #[hA o k e, hA ca 0 0, gE ha 0], .bool ck]) (by simp[cw,cn,go_sem,M]) rfl ?_;rw[<-an.o,I.o];exact⟨n.o.2,_,_,_,rfl,fun ps h=>by cases h⟩
  obtain rfl:k=cnt:=oM
  have aP:jm k (L.drop 2)=cz ps:=by rw[ai.o.1,Nat.sub_self,jm];simp
  obtain⟨aE,aW⟩:=tE aP;have br:=gF (gK aP aW);have c:=gF (gK m (gK p (gK ar q)));have a5:Hid (ps.length=k):=gF aE;have be:jf (fun Y=>w.heap.size<=Y/\Y<wr.heap.size) wr (il o e ca 0 (.mk ps [] 0)) (.mk ps [] 0):=by
   obtain⟨a2,c',g,X,aZ,-⟩:=nC ar;obtain⟨rfl,rfl⟩:o=a2/\e=c':=by simpa using g
   exact jf.leaf (by show jk o ps.length e;rw[aE];exact X) aZ
  have aD:=fun W (ba:cd wr.heap.size wr W)=>y4 (.mk ps [] 0) o ca e 0 W ((be.same (T:=fun Y=>w.heap.size<=Y/\Y<wr.heap.size) (fun Y aC=>ba.block Y aC.2) fun Y aC=>aC).c fun Y aC=>by have:=ba.size;omega) (.inl ⟨rfl,by show ps.length<=3;omega,aW⟩);obtain⟨bL,a0⟩:=nM (bs (iy (.mk ps [] 0)));rw[a0] at aD;simp only[il,Nd.ps,Nd.gC,Nd.page,aE,List.length_nil] at aD;have aM:=gF aD;have bA:=gF a0;obtain⟨C,E,D⟩:=m.c3;obtain⟨u,B⟩:=p.c2;clear aD be a0 aP aE aW m p ar q;obtain⟨ap,ac⟩:=nM ((bL.toList==ag.toList));have bw:Hid (kV L=if ap=ch then cz ps else ca):=gF (by
   have g:ap=decide (jg (j5 ps)=L):=by
    rw[<-ac, <-bA.o, <-bz.o,zV,zV];show(jg (j5 ps)==L)=_
    by_cases h:jg (j5 ps)=L
    . rw[decide_eq_true h];exact beq_iff_eq.2 h
    . rw[decide_eq_false h];exact beq_eq_false_iff_ne.2 h
   rw[g];unfold kV;rw[ak.o,if_neg oM,br.o.1]
   simp)
  have bO:=gF ac;go_upto_region 14 with fail
  refine qm #[ck,ck,ck,ck,ck,ck,ck] 7 oP oO rfl ?_;refine cI (i:=3) (v:=(hE ag)) rfl oP oP oP (fun _ _ _ h=>h) (Or.inl ⟨oO,fun w=>by first|rfl| (go_simp;try with_reducible rfl)⟩) ?_;simp only[ki,ct,gU];refine wpAny_ready (rs:=[0,1]) oP oC ?_;refine cv rfl (fun K hK=>?_) (cv rfl (fun K hK=>?_) AllReady.nil);focus
   go_simp;refine hK _ _ ?_;clear hK K;simp only[cq,cA];refine iG 1 fun K hK=>?_;go_simp;refine hK _ _ ?_;clear hK K;simp only[gU];refine iG 2 fun K hK=>?_;go_simp;have O:cd wr.heap.size wr wr.drew:=⟨rfl,rfl,rfl,cx _,fun _ _=>rfl⟩;refine(aM.o _ O).mono ?_;rintro g W2 ⟨rfl,ab⟩;have r:cd wr.heap.size wr W2:=O.trans ab;clear O ab;refine hK _ _ ?_;clear hK K;simp only[gU];refine cI (i:=4) (v:=?_) rfl oP oP oP (fun _ _ _ h=>h) (Or.inl ⟨oO,?_⟩) ?_;rotate_left;. intro w;go_simp;try with_reducible rfl
   simp only[ct,gU]
   (try rw[ac])
   clear ac;have R:=c.o.1.gD r;have ah:=c.o.2.1.gD r;have ad:=nD c.o.2.2.1 r;have aa:=Below.then c.o.2.2.2 r P;have aj:=gF (gK R (gK ad aa));clear C E D u B;obtain⟨u,B⟩:=ah.c2;obtain⟨C,E,D⟩:=R.c3;clear r R ah ad aa
  rotate_left;focus
   go_simp;refine hK _ _ ?_;clear hK K;simp only[gU];refine wpAny_ready (rs:=[0,2]) oP oC ?_;refine cv rfl (fun K hK=>?_) (cv rfl (fun K hK=>?_) AllReady.nil);focus
    go_simp;refine hK _ _ ?_;clear hK K;simp only[cq,cA];refine iG 2 fun K hK=>?_;go_simp;have O:cd wr.heap.size wr wr.drew:=⟨rfl,rfl,rfl,cx _,fun _ _=>rfl⟩;refine(aM.o _ O).mono ?_;rintro g W2 ⟨rfl,ab⟩;have r:cd wr.heap.size wr W2:=O.trans ab;clear O ab;refine hK _ _ ?_;clear hK K;simp only[gU];refine cI (i:=4) (v:=?_) rfl oP oP oP (fun _ _ _ h=>h) (Or.inl ⟨oO,?_⟩) ?_;rotate_left;. intro w;go_simp;try with_reducible rfl
    simp only[ct,gU]
    (try rw[ac])
    clear ac;have R:=c.o.1.gD r;have ah:=c.o.2.1.gD r;have ad:=nD c.o.2.2.1 r;have aa:=Below.then c.o.2.2.2 r P;have aj:=gF (gK R (gK ad aa));clear C E D u B;obtain⟨u,B⟩:=ah.c2;obtain⟨C,E,D⟩:=R.c3;clear r R ah ad aa
   rotate_left;focus
    go_simp;have O:cd wr.heap.size wr wr.drew:=⟨rfl,rfl,rfl,cx _,fun _ _=>rfl⟩;refine(aM.o _ O).mono ?_;rintro g W2 ⟨rfl,ab⟩;have r:cd wr.heap.size wr W2:=O.trans ab;clear O ab;refine hK _ _ ?_;clear hK K;simp only[gU];refine cI (i:=4) (v:=?_) rfl oP oP oP (fun _ _ _ h=>h) (Or.inl ⟨oO,?_⟩) ?_;rotate_left;. intro w;go_simp;try with_reducible rfl
    simp only[ct,gU]
    (try rw[ac])
    clear ac;have R:=c.o.1.gD r;have ah:=c.o.2.1.gD r;have ad:=nD c.o.2.2.1 r;have aa:=Below.then c.o.2.2.2 r P;have aj:=gF (gK R (gK ad aa));clear C E D u B;obtain⟨u,B⟩:=ah.c2;obtain⟨C,E,D⟩:=R.c3;clear r R ah ad aa;refine iG 0 fun K hK=>?_;go_simp;refine hK _ _ ?_;clear hK K;simp only[cq,cA]
  all_goals
   refine iG 5 fun K hK=>?_;go_simp;refine hK _ _ ?_;clear hK K;refine iG 6 fun K hK=>?_;go_simp;refine hK _ _ ?_;clear hK K;refine kS ?_;obtain⟨Wf,b⟩:=nM (((W2.setCell ⟨N,0,ca⟩ (hA o k e)).setCell ⟨N,1,ca⟩ (hA ca 0 0)).setCell ⟨N,2,ca⟩ (gE ha 0));have aF:(Value.slice o k e).ownBlock≠cz N:=nu aj.o.2.1 aj.o.1 oF;have t:Bx Wf N #[hA o k e, hA ca 0 0, gE ha 0] 95:=by rw[<-b];have:=((aj.o.1.set 0 (hA o k e)).set 1 (hA ca 0 0)).set 2 (gE ha 0);simpa using this
   have bp:Wf.ownsRow w.heap.size 77 2 (hA o k e) k (gV ps):=by rw[<-b];exact oX (a:=⟨N,2,ca⟩) (oX (a:=⟨N,1,ca⟩) (oX (a:=⟨N,0,ca⟩) aj.o.2.1 aF _) aF _) aF _
   have s:cd w.heap.size w Wf:=by rw[<-b];exact iT (iT (iT aj.o.2.2 oM) oM) oM
   have n:=gF (gK t (gK bp s));clear C E D u B aF t bp s;rw[b];have U:=gF b;clear b;go_wp2;have M:=n.o.1.cell;refine cm (v:= hG #[hF #[hA o k e, hA ca 0 0, gE ha 0], .bool ap]) (by simp[cw,cn,go_sem,M]) rfl ?_;rw[<-an.o,bw.o];refine⟨n.o.2.2,_,_,_,by cases ap<;>rfl,fun Na h=>?_⟩
   cases ap with
   | false=>cases h
   | true=>
    obtain rfl:ps=Na:=by simpa using h
    obtain⟨a2,c',g,X,aZ,-⟩:=nC n.o.2.1;obtain⟨rfl,rfl⟩:o=a2/\e=c':=by simpa using g
    have bd:=jf.leaf (page:=0) (by show jk o ps.length e;rw[a5.o];exact X) aZ;rw[a5.o] at bd;exact bd
end Go.Proofs.YtlefmmhlpgmbjaaGreat
