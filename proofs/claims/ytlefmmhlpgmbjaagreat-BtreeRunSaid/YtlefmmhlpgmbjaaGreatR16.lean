import Derived.Test.YtlefmmhlpgmbjaaGreatR15
import Derived.Lib.SmallJoins
import Derived.Deep.SlicePairs
open Go.Proofs.Tryz renaming prog->ea,underlying3->eg,underlying22->eE
open List renaming getElem?_eq_getElem->eb,length_map->ei,getElem?_map->ek,mem_map->eC,getElem_mem->eF,mem_cons_of_mem->eK,range->eN,mem_cons_self->eO,length_range->eP
open Go renaming reachBytes->ed,MemPlace->eh,Value->et,DataW->ev,TypeId->eG,World->eH
open List.cons renaming inj->ee
open Go.DataW renaming trod->ef,trod_int->ej,weights->ep,weightsAll->ez
open Array renaming getElem?_eq_getElem->eu,getElem?_toList->eJ
open Go.World renaming block_lt_of_cell?->ew
open Nat renaming add_assoc->ey,mul_le_mul_right->eL
open Option renaming some->eA,map_some->eB,none->eI,bind_some->eM
open ByteArray renaming empty->eD
open Go.Proofs.Tryz
set_option maxRecDepth 100000
set_option maxHeartbeats 4000000
open Go.Value renaming slice->gE
open Go.Obj renaming cells->ha
namespace Go.Proofs.YtlefmmhlpgmbjaaGreat
open Go.RowKit Go.Lib
theorem mh.wK {p gI gJ:Int} {d F:ik} {er:Int} {x:Ix} (c:mN p 512=(d,0)) (a:kY d gI gJ=(F,er)) (b:jF F gI gJ=(x,0)):mh gI gJ 1 x:=by
 have h:d.left= -1:=by unfold mN at c;split at c;simp only[Prod.mk.injEq] at c;rw[<-c.1];simp at c
 have f:(kY d gI gJ).2=0:=by
  by_cases hf:iQ d gI gJ=0
  unfold kY;rw[if_neg (by simp[hf])];have g:=xj hf;refine(BO _ g.1 ?_ h).1;have i:jg []=List.replicate 512 0:=rfl;intro j e;rcases j4.1 e with rfl|e;exact⟨oM,oM,by rw[lM,i,List.length_replicate];omega⟩;rcases j4.1 e with rfl|e;exact⟨oM,oM,by rw[lM,tH oF];omega⟩;rw[lx.1 e];trivial;exfalso;unfold kY at a;rw[if_pos hf] at a;simp only[Prod.mk.injEq] at a;rw[<-a.1] at b;have:iQ jX gI gJ=1:=rfl;unfold jF at b;rw[this,if_pos oF] at b;simp at b
 refine mh.begin (d:=d) ?_ f;rw[a];exact b
structure pL (w:eH) (N yb zb:Nat) (x u:Ix) (po co fo qo ro so:Option Addr) (pc cc fc qc rc sc:Nat) (W:eH):Prop where
 y:Bx W yb (ib x.gL po co pc cc x.gI x.gJ x.gZ x.gN fo x.free.length fc) 33
 z:Bx W zb (ib u.gL qo ro qc rc u.gI u.gJ u.gZ u.gN so u.free.length sc) 33
 vy:kG W (.agg (ib x.gL po co pc cc x.gI x.gJ x.gZ x.gN fo x.free.length fc)) x
 vz:kG W (.agg (ib u.gL qo ro qc rc u.gI u.gJ u.gZ u.gN so u.free.length sc)) u
 below:Below w.heap.size w W
 hy:N<=yb
 hz:N<=zb
 ne:yb≠zb
 hw:w.heap.size=N
section
variable {w:eH} {N yb zb:Nat} {x u:Ix} {po co fo qo ro so gp gc gf:Option Addr} {pc cc fc qc rc sc hp hc hf:Nat} {W W':eH} {F:Ix}
theorem pL.next (h:pL w N yb zb x u po co fo qo ro so pc cc fc qc rc sc W) (a:Below W.heap.size W W'):pL w N yb zb x u po co fo qo ro so pc cc fc qc rc sc W':=
 ⟨h.y.gD a,h.z.gD a,h.vy.below a,h.vz.below a,iq h.below a,h.hy,h.hz,h.ne,h.hw⟩
theorem pL.CA (h:pL w N yb zb x u po co fo qo ro so pc cc fc qc rc sc W) (d:kG W (.agg (ib F.gL gp gc hp hc F.gI F.gJ F.gZ F.gN gf F.free.length hf)) F)
  (a:jr W yb (.int .i64 F.gL.size) (gE gp F.gL.gG.length hp) (gE gc F.gL.gH.length hc) (.int .i64 F.gL.left) (.int .i64 F.gI) (.int .i64 F.gJ) (.int .i64 F.gZ) (.int .i64 F.gN) (gE gf F.free.length hf)=W'):
  pL w N yb zb F u gp gc gf qo ro so hp hc hf qc rc sc W':=by
 have b:Only yb W W':=by subst a;exact Only.nine
 have c:=kZ x.gL.size x.gL.left x.gI x.gJ x.gZ x.gN po co fo x.gL.gG.length x.gL.gH.length x.free.length pc cc fc;have:=h.hy;have:=h.hw;exact⟨by subst a;exact h.y.kh,h.z.only b (Ne.symm h.ne),d.only h.y c oF b,h.vz.only h.y c oF b,by subst a;exact mV h.below oM,h.hy,h.hz,h.ne,h.hw⟩
theorem pL.CB (h:pL w N yb zb x u po co fo qo ro so pc cc fc qc rc sc W) (d:kG W (.agg (ib F.gL gp gc hp hc F.gI F.gJ F.gZ F.gN gf F.free.length hf)) F)
  (a:jr W zb (.int .i64 F.gL.size) (gE gp F.gL.gG.length hp) (gE gc F.gL.gH.length hc) (.int .i64 F.gL.left) (.int .i64 F.gI) (.int .i64 F.gJ) (.int .i64 F.gZ) (.int .i64 F.gN) (gE gf F.free.length hf)=W'):
  pL w N yb zb x F po co fo gp gc gf pc cc fc hp hc hf W':=by
 have b:Only zb W W':=by subst a;exact Only.nine
 have c:=kZ u.gL.size u.gL.left u.gI u.gJ u.gZ u.gN qo ro so u.gL.gG.length u.gL.gH.length u.free.length qc rc sc;have:=h.hz;have:=h.hw;exact⟨h.y.only b h.ne,by subst a;exact h.z.kh,h.vy.only h.z c oF b,d.only h.z c oF b,by subst a;exact mV h.below oM,h.hy,h.hz,h.ne,h.hw⟩
end
theorem O1 (w:eH) (p gI gJ:Int) (O:List kP) (o:Option Addr) (c:Nat) (d:pJ w o O) (au:jk o O.length c):
  Calls ea 5 #[.agg (wI p gI gJ o O.length c)] w fun e w'=>e= .returned (.bool true)/\Below w.heap.size w w':=by
 have dx:=sX au;obtain⟨N,cT⟩:=nM w.heap.size;obtain⟨aO,aI⟩:=nM O.length;obtain⟨dn,bT⟩:=nM (xn p O);obtain⟨I,a2,bY⟩: ∃I a2,mN p 512=(I,a2):=⟨_,_,rfl⟩;have c1:I.gH=[]:=by have:=OQ p 512;rw[bY] at this;exact this
 obtain⟨W1,bH⟩:=nM (w.alloc (ha (wI p gI gJ o aO c) 49));have b:Below w.heap.size w W1:=by subst bH;exact Below.one w _
 have a:Bx W1 N (wI p gI gJ o aO c) 49:=by subst bH cT;exact Bx.new w _ _
 have bU:=Mj p gI gJ O o c W1 (d.below b) au;rw[bT,aI] at bU;rw[aI] at dx;rw[aI];obtain⟨g,q⟩:=a.c2;have cw:=gF bU;have cy:=gF aI;have bm:=gF bY;have cs:=gF c1;have dh:=gF d;have cn:=gF cT;clear bU bY c1 d au aI;go_enter func5,ntmps5;go_wp2_with fail;refine cw.o.mono ?_;rintro e dJ ⟨rfl,bN⟩;have a:=a.gD bN;have b:=iq b bN;clear g q cw bN bH;cases dn;rotate_left
 case' true=>
  obtain⟨dw,-,ay⟩:=OU bT;rw[cy.o] at dw;have dj:=gF ay;clear bT ay;have c3:=F3 p 512 dJ bm.o;have cz:=gF c3;obtain⟨g,q⟩:=a.c2;clear c3;go_wp2_with fail;refine cz.o.mono ?_;rintro e aA ⟨dW,rfl,y,aq⟩;have cU:=y;obtain⟨po,pc,co,cc,rfl⟩:=cU.agg;have a:=a.gD aq;have b:=iq b aq;clear g q cz aq cU
  (try simp only at y)
  go_upto_region 4 with fail
  obtain⟨dR,bE⟩:=nM aA.heap.size;obtain⟨dK,b7⟩:=nM (aA.alloc (ha (dC I po co pc cc) 25));have aE:=Below.one aA (ha (dC I po co pc cc) 25);have U:=Bx.new aA (dC I po co pc cc) 25;rw[b7] at aE U;have a:=a.gD aE;have b:=iq b aE;have y:=y.below aE;rw[bE] at U;simp only[b7,bE];clear aE b7 bE;cases a7:(a2 !=0);rotate_left;rotate_left;.
   obtain rfl:a2=0:=by simpa using a7
   clear a7;obtain⟨F,er,af⟩: ∃F er,kY I gI gJ=(F,er):=⟨_,_,rfl⟩;obtain⟨X,aw,bJ⟩: ∃X e,jF F gI gJ=(X,e):=⟨_,_,rfl⟩;have aG:aw=0->mh gI gJ 1 X:=fun e=>mh.wK bm.o af (by rw[bJ,e]);have aB:=gF aG;have bh:=gF af;have bi:=gF bJ;have bn:=gF (show I.gH.length<=999990 by rw[cs.o];exact Nat.zero_le _);clear aG af bJ cs bm;obtain⟨g,q⟩:=a.c2;obtain⟨aC,ce⟩:=U.c2;unfold dC at aC;have bR:=EA I _ gI gJ dK y bn.o;rw[bh.o] at bR;have cu:=gF bR;clear bR;go_wp2_with fail;refine cu.o.mono ?_;rintro e be ⟨dX,rfl,d,aF⟩;have cR:=d;obtain⟨ci,cg,bw,bu,rfl⟩:=cR.agg;have a:=a.gD aF;have U:=U.gD aF;have b:=iq b aF;have y:=y.below aF;clear g q aC ce cu aF cR
   (try simp only at d)
   go_upto_region 7 with fail
   obtain⟨dP,bB⟩:=nM be.heap.size;obtain⟨dL,b8⟩:=nM (be.alloc (ha (dC F ci bw cg bu) 25));have ar:=Below.one be (ha (dC F ci bw cg bu) 25);have f:=Bx.new be (dC F ci bw cg bu) 25;rw[b8] at ar f;have a:=a.gD ar;have U:=U.gD ar;have b:=iq b ar;have y:=y.below ar;have d:=d.below ar;rw[bB] at f;simp only[b8,bB];clear ar b8 bB;obtain⟨g,q⟩:=a.c2;obtain⟨aC,ce⟩:=U.c2;unfold dC at aC;have bS:=Oc I _ gI gJ dL y bn.o;rw[bh.o] at bS;have cv:=gF bS;clear bS;go_wp2_with fail;refine cv.o.mono ?_;rintro e ah ⟨dY,rfl,i,P⟩;have cS:=i;obtain⟨cj,ch,bx,bv,rfl⟩:=cS.agg;have a:=a.gD P;have f:=f.gD P;have b:=iq b P;have d:=d.below P;clear g q aC ce cv P cS U y
   (try simp only at i)
   go_upto_region 8 with fail
   obtain⟨dQ,bD⟩:=nM ah.heap.size;obtain⟨aQ,b9⟩:=nM (ah.alloc (ha (dC F cj bx ch bv) 25));have B:=Below.one ah (ha (dC F cj bx ch bv) 25);have r:=Bx.new ah (dC F cj bx ch bv) 25;rw[b9] at B r;have a:=a.gD B;have f:=f.gD B;have b:=iq b B;have d:=d.below B;have i:=i.below B;rw[bD] at r;simp only[b9,bD];clear B b9 bD;obtain⟨g,q⟩:=a.c2;obtain⟨ac,aL⟩:=f.c2;unfold dC at ac;have bZ:=Bd F _ gI gJ aQ d;rw[zv,bi.o] at bZ;have cA:=gF bZ;clear bZ;go_wp2_with fail;refine cA.o.mono ?_;rintro e n ⟨dH,rfl,J,j⟩;have a:=a.gD j;have f:=f.gD j;have r:=r.gD j;have b:=iq b j;have d:=d.below j;have i:=i.below j;clear g q ac aL cA j
   (try simp only at J)
   have dt:=J;obtain⟨bb,a',a0,aY,a5,a3,rfl,-,-,-⟩:=dt;go_upto_region 9 with fail
   obtain⟨Y,bK⟩:=nM n.heap.size;obtain⟨dM,b'⟩:=nM (n.alloc (ha (ib X.gL bb a0 a' aY X.gI X.gJ X.gZ X.gN a5 X.free.length a3) 33));have R:=Below.one n (ha (ib X.gL bb a0 a' aY X.gI X.gJ X.gZ X.gN a5 X.free.length a3) 33);have V:=Bx.new n (ib X.gL bb a0 a' aY X.gI X.gJ X.gZ X.gN a5 X.free.length a3) 33;rw[b'] at R V;have cW:N<=Y:=by have:=b.size;have:=cn.o;omega
   have a:=a.gD R;have f:=f.gD R;have r:=r.gD R;have b:=iq b R;have d:=d.below R;have i:=i.below R;have J:=J.below R;rw[bK] at V;simp only[b',bK];clear R b' bK;obtain⟨g,q⟩:=a.c2;obtain⟨ad,aM⟩:=r.c2;unfold dC at ad;have b0:=Af F _ gI gJ dM i;rw[bi.o] at b0;have cB:=gF b0;have bj:=gF cW;clear b0 cW;go_wp2_with fail;refine cB.o.mono ?_;rintro e bf ⟨dZ,rfl,ax,S⟩;have a:=a.gD S;have f:=f.gD S;have r:=r.gD S;have V:=V.gD S;have b:=iq b S;have d:=d.below S;have i:=i.below S;have J:=J.below S;clear g q ad aM cB S
   (try simp only at ax)
   have du:=ax;obtain⟨bc,ba,a1,aZ,a6,a4,rfl,-,-,-⟩:=du;go_upto_region 10 with fail
   obtain⟨Z,bL⟩:=nM bf.heap.size;obtain⟨wc,ca⟩:=nM (bf.alloc (ha (ib X.gL bc a1 ba aZ X.gI X.gJ X.gZ X.gN a6 X.free.length a4) 33));have C:=Below.one bf (ha (ib X.gL bc a1 ba aZ X.gI X.gJ X.gZ X.gN a6 X.free.length a4) 33);have bg:=Bx.new bf (ib X.gL bc a1 ba aZ X.gI X.gJ X.gZ X.gN a6 X.free.length a4) 33;rw[ca] at C bg;have dv:Y<Z:=by have:=V.lt;omega
   have a:=a.gD C;have f:=f.gD C;have r:=r.gD C;have V:=V.gD C;have b:=iq b C;have d:=d.below C;have i:=i.below C;have J:=J.below C;have ax:=ax.below C;rw[bL] at bg;simp only[ca,bL];have dc:pL w N Y Z X X bb a0 a5 bc a1 a6 a' aY a3 ba aZ a4 wc:=⟨V,bg,J,ax,b,bj.o,by have:=bj.o;omega,oM,cn.o⟩;clear C ca bL dv bj J ax b V bg;have cG:=gF dc;obtain⟨ac,aL⟩:=f.c2;obtain⟨ad,aM⟩:=r.c2;unfold dC at ac ad;have c4:=DG F _ _ wc d i;have cE:=gF c4;have cQ:(er==er)=true:=oC
   have bz:(aw==aw)=true:=oC
   clear c4 dc;go_wp2_with fail;refine cE.o.mono ?_;rintro e dN ⟨rfl,bO⟩;have az:=cG.o.next bO;have a:=a.gD bO;have cH:=gF az;have c5:=G8 X _ _ dN az.vy.v az.vz.v;have cF:=gF c5;clear ac aL ad aM cE c5 d i cG f r bO;obtain⟨ac,aL⟩:=az.y.c2;obtain⟨ad,aM⟩:=az.z.c2;unfold ib at ac ad;clear az;go_wp2_with fail;refine cF.o.mono ?_;rintro e d1 ⟨rfl,bP⟩;have de:=cH.o.next bP;have a:=a.gD bP;clear ac aL ad aM cF cH bP cQ bz bh bi bn;obtain⟨g,q⟩:=a.c2;go_wp2;clear g q a
   go_loopw [88] (fun cb wr=> ∃(D:Nat) (x:Ix) (po co fo qo ro so:Option Addr) (pc cc fc qc rc sc:Nat),D<=aO/\cb= .int .i64 D/\(aw=0->mh gI gJ (1+D) x)/\pL w N Y Z x x po co fo qo ro so pc cc fc qc rc sc wr) (fun cb _=>aO - (intOf cb).toNat)
   case atStart=>exact⟨0,X,_,_,_,_,_,_,_,_,_,_,_,_,Nat.zero_le _,rfl,aB.o,de⟩
   case round=>
    clear de aB;obtain⟨D,x,po,co,fo,qo,ro,so,pc,cc,fc,qc,rc,sc,dT,rfl,aG,M⟩:=hrel;have b:=M.below
    by_cases a9:D<aO
    focus
     have bX:D<O.length:=by rw[cy.o];exact a9
     obtain⟨cK,dU,al,an,ap,av,ak,am,ao,wc,rfl,cd,c8,c9,c',da,db,b1⟩:=dh.o D bX;have A:cK<w.heap.size:=ew w _ cd;have g:=(M.below.cell A).trans cd;have cL:=(M.below.cell A).trans c8;have cM:=(M.below.cell A).trans c9;have cN:=(M.below.cell A).trans c';have cO:=(M.below.cell A).trans da;have cP:=(M.below.cell A).trans db;have dF:cK<wr.heap.size:=iU A M.below.size;have ay:=dj.o O[D] (eF bX);obtain⟨v,cY⟩:=nM (O[D]);rw[cY] at g cL cM cN cO cP b1 ay;have cC:=gF b1;have cx:=gF ay;have aB:=gF aG;have aW:=gF M;clear cd c8 c9 c' da db b1 ay cY bX aG M;cases a7:(aw !=0);rotate_left;focus have b:=iq b (Below.one wr (ha (jG v al an ap av ak am ao wc) 54))
     rotate_left;.
      obtain rfl:aw=0:=by simpa using a7
      have aH:=aB.o rfl;obtain⟨l,bW⟩:=nM (wJ x);obtain⟨F',bA,af⟩: ∃F er,pO x v l=(F,er):=⟨_,_,rfl⟩;have c6:nQ x v l=(F',bA):=(aH.same oM v l).trans af;have c7:mh gI gJ (1+(D+1)) F':=by have:=aH.step oM v;rw[bW,af] at this;exact this
      have bQ:=fun E ag W (A:Below w.heap.size w W) (G:et) (L:kG W G x) (bV:jS W E l) (b2:jk E l.length ag)=>MU x G v al an ap av ak am ao wc l E ag W L (cC.o.below A) cx.o bV b2 (by have:=aH.few;omega);have b3:=fun E ag W (A:Below w.heap.size w W) (G:et) (L:kG W G x) (bV:jS W E l) (b2:jk E l.length ag)=>OZ x G v al an ap av ak am ao wc l E ag W L (cC.o.below A) cx.o bV b2 (by have:=aH.few;omega);rw[af] at bQ;rw[c6] at b3;obtain⟨d0,b5⟩: ∃er:Int,(if n4 x=eI then 1 else 0)=er:=⟨_,rfl⟩;have bk:=gF bQ;have bo:=gF b3;have dk:=gF c7;have bl:=gF bW;clear bQ b3 c7 bW c6 af aH aB;obtain⟨bs,cX⟩:=nM wr.heap.size;have c0:=Below.one wr (ha (jG v al an ap av ak am ao wc) 54);have aa:Bx (wr.alloc (ha (jG v al an ap av ak am ao wc) 54)) bs (jG v al an ap av ak am ao wc) 54:=Bx.ir _ _ _ _ cX.symm;have aP:=aW.o.next c0;have di:=gF (show bs≠Y/\bs≠Z from by have:=aW.o.y.lt;have:=aW.o.z.lt;omega);obtain⟨dl,cV⟩:=nM (wr.alloc (ha (jG v al an ap av ak am ao wc) 54));rw[cV] at aa aP;clear c0 b aW;go_upto_region 15 with fail
      clear cV cX g cL cM cN cO cP dF;have c2:=yo x _ dl aP.vz.v b5;have ct:=gF c2;have bp:=gF b5;have cI:=gF aP;obtain⟨k,T⟩:=aP.z.c2;unfold ib at k;clear c2 b5 aP;go_wp2_with fail;refine ct.o.mono ?_;rintro e ah ⟨rfl,P⟩;have m:=cI.o.next P;have aa:=aa.gD P;clear k T ct P cI;cases L:n4 x
      case' none=>
       have aD:=bp.o;rw[L,if_pos rfl] at aD;subst aD;obtain rfl:l=[]:=by rw[<-bl.o];unfold wJ;rw[L]
       go_upto_region 19 with fail
       have aU:=gF (bk.o eI 0 _ m.below _ m.vy (jS.nil _ _) (.inl ⟨rfl,rfl,rfl⟩));have aV:=gF fun n W9 (_:Below ah.heap.size ah n) (_:Only Y n W9) (bC:Below w.heap.size w W9) G (b4:kG W9 G x)=>bo.o eI 0 W9 bC G b4 (jS.nil _ _) (.inl ⟨rfl,rfl,rfl⟩);simp only[List.length_nil] at aU aV;have br:=gF m;have aj:=gF aa;clear m aa
      case' some t=>
       have aD:=bp.o;rw[L,if_neg oC] at aD;subst aD;have hp:=GQ x _ ah m.vz.v L;have a9:jz t=l:=by rw[<-bl.o];unfold wJ;rw[L]
       rw[a9] at hp;have cD:=gF hp;obtain⟨k,T⟩:=m.z.c2;have cJ:=gF m;unfold ib at k;clear hp a9 m;go_wp2_with fail;refine cD.o.mono ?_;rintro e aQ ⟨E,ag,rfl,au,aK,B⟩;have m:=cJ.o.next B;have aa:=aa.gD B;have aK:jS aQ E l:=aK;clear k T cD cJ B;go_upto_region 19 with fail
       have aU:=gF (bk.o E ag _ m.below _ m.vy aK au);have aV:=gF fun n W9 (j:Below aQ.heap.size aQ n) (aJ:Only Y n W9) (bC:Below w.heap.size w W9) G (b4:kG W9 G x)=>bo.o E ag W9 bC G b4 ((aK.below j).only (m.y.gD j) (kZ _ _ _ _ _ _ _ _ _ _ _ _ _ _ _) aJ) au;have br:=gF m;have aj:=gF aa;clear m aa aK au
      all_goals
       clear bk bo bl bp L;obtain⟨ae,aN⟩:=br.o.y.c2;obtain⟨bt,cf⟩:=aj.o.c2;unfold ib at ae;go_wp2_with fail;refine aU.o.mono ?_;rintro e n ⟨dH,rfl,bF,j⟩;have dr:=bF;obtain⟨gp,hp,gc,hc,gf,hf,rfl,-,-,-⟩:=dr;have cl:=br.o.next j;have dg:=aj.o.gD j;obtain⟨W9,a8⟩:=nM (jr n Y (.int .i64 F'.gL.size) (gE gp F'.gL.gG.length hp) (gE gc F'.gL.gH.length hc) (.int .i64 F'.gL.left) (.int .i64 F'.gI) (.int .i64 F'.gJ) (.int .i64 F'.gZ) (.int .i64 F'.gN) (gE gf F'.free.length hf));have bd:=cl.CA bF a8;have aJ:Only Y n W9:=by subst a8;exact Only.nine
       have df:=dg.only aJ di.o.1;have cp:=gF (aV.o n W9 j aJ bd.below _ bd.vz);have bq:=gF bd;have aj:=gF df;have cr:=gF a8;clear ae aN bt cf a8 bF j dg bd df aJ aV aU;obtain⟨ae,aN,dp⟩:=cl.y.c3;unfold ib at ae;clear cl;go_upto_region 20 with fail
       have ai:=cr.o;unfold jr lj at ai;rw[ai];clear ae aN dp ai cr;obtain⟨k,T⟩:=bq.o.z.c2;obtain⟨bt,cf⟩:=aj.o.c2;unfold ib at k;go_wp2_with fail;refine cp.o.mono ?_;rintro e dI ⟨dV,rfl,bG,bM⟩;have ds:=bG;obtain⟨dA,dE,dy,dB,dz,dD,rfl,-,-,-⟩:=ds;have ck:=bq.o.next bM;have dO:=aj.o.gD bM;obtain⟨aX,bI⟩:=nM (jr dI Z (.int .i64 F'.gL.size) (gE dA F'.gL.gG.length dE) (gE dy F'.gL.gH.length dB) (.int .i64 F'.gL.left) (.int .i64 F'.gI) (.int .i64 F'.gJ) (.int .i64 F'.gZ) (.int .i64 F'.gN) (gE dz F'.free.length dD));have dd:=ck.CB bG bI;have ab:=gF dd;have cq:=gF bI;clear k T bt cf bI bG bM dO dd cp bq aj;obtain⟨k,T,dq⟩:=ck.z.c3;unfold ib at k;clear ck;go_upto_region 21 with fail
       have ai:=cq.o;unfold jr lj at ai;rw[ai];clear k T dq ai cq;have cQ:(bA==bA)=true:=oC
       obtain⟨cm,b6⟩: ∃er:Int,(if n4 F'=eI then 1 else 0)=er:=⟨_,rfl⟩;have bz:(cm==cm)=true:=oC
       have aR:Hid (∀s:jv aX,_):=gF fun s=>G8 F' _ _ s.w (ab.o.vy.below s.h).v (ab.o.vz.below s.h).v;have aS:Hid (∀s:jv aX,_):=gF (fun s=>JR F' _ s.w (ab.o.vy.below s.h).v (er:=cm) (by rw[wx];exact b6));have aT:Hid (∀s:jv aX,_):=gF fun s=>yo F' _ s.w (ab.o.vz.below s.h).v b6;obtain⟨ae,aN⟩:=ab.o.y.c2;obtain⟨k,T⟩:=ab.o.z.c2;unfold ib at aR aS aT ae k;clear b6;have dm:=jv.cells aX;refine p3 oP oP ?_;repeat (any_goals (first|go_big_quiet_skip| (go_big_quiet_want;go_big_quiet_op;first|go_big_quiet_on|go_big_quiet_call ((first| (go_at_call 19;exact Calls.rH (aR.o _))| (go_at_call 25;exact Calls.rH (aS.o _))| (go_at_call 26;exact Calls.rH (aT.o _)))))|quiet_step ((first| (go_at_call 19;exact Calls.rH (aR.o _))| (go_at_call 25;exact Calls.rH (aS.o _))| (go_at_call 26;exact Calls.rH (aT.o _))))))
       refine wpQuiet_nil ?_;rintro dS ⟨⟨_,cZ⟩,rfl⟩;have dG:=ab.o.next cZ;clear ae aN k T dm aR aS aT bz ab cZ;go_wp2;go_roundw;case rel=>exact⟨D+1,F',_,_,_,_,_,_,_,_,_,_,_,_,oM,oQ,fun _=>dk.o,dG⟩
       case measure=>simp[intOf];omega
    rotate_left;all_goals go_wp2_with fail;refine(F4 _).mono ?_;rintro e aA ⟨rfl,aq⟩;go_wp2;go_ret;exact⟨rfl,iq b aq⟩
 all_goals go_wp2_with fail;refine(F4 _).mono ?_;rintro e aA ⟨rfl,aq⟩;go_wp2;go_ret;exact⟨rfl,iq b aq⟩
open Go.RowKit Go.ChangeShapes Go.WideShapes
section
variable {H:Type} {enc:eG×et->H} {W:eH} {gM:Nat} {sp:Nat->Bool} {held:Bool}
theorem G9 {P:Program} {e:eG}: ∀{l:List (ev H)} {d:ev H},d∈l-> ∀n∈d.weights P e,n∈ez P e l
 | x::l,d,h,n,hn=>by rw[ez,jD];rcases j4.1 h with rfl|h;exact .inl hn;exact .inr (G9 h n hn)
theorem Ha {P:Program} {e:eG} (bs:List UInt8):(DataW.lit (.string bs):ev H).weights P e=[bs.length]:=by rw[ep]
theorem CC:Tryz.prog.cellsOf 9=1:=oP
theorem CD:Tryz.prog.cellsOf 3=1:=oP
theorem O2:Tryz.prog.bytesOf 9=16:=oP
theorem O3:Tryz.prog.bytesOf 3=8:=oP
theorem Hc {w:eH} {a:Addr} {v:et} (h:w.cell? a=eA v): ∃b c,a=⟨b,c,eI⟩:=by
 have:=World.cell?_spot h;cases a;cases this;exact⟨_,_,rfl⟩
theorem open_strs {n:Nat} {v:et} {y:ev H×List eh} (h:ef enc ea W gM sp held n 22 [v]=eA y) (i: ∀k∈y.1.weights ea 22,k<=ed):
  ∃(o:Option Addr) (l:List ByteArray) (c:Nat),v= gE o l.length c/\jk o l.length c/\mW (· <W.heap.size) W o l/\l.length * 16<=140737488351232/\ ∀s∈l,s.size<=140737488351232:=by
 rcases open_strings eE underlying9 CC h with⟨f,_⟩|⟨a,len,r,e,f,G,z,A,C,D,p,_⟩;cases f;exact⟨eI,[],0,rfl, .inl ⟨rfl,rfl,rfl⟩,by intro j g;simp at g,oC,oC⟩;cases f;have I:len<=e.length:=by rw[C];split<;>omega
 have b:(e.take len).length=len:=oN
 rw[D] at i;have m:=i _ (by rw[ep,eE];exact eO);rw[O2] at m;simp[strs,ed] at m;refine⟨eA a,e.take len,r,by rw[b], .inr ⟨a,rfl,by rw[b];exact z,A⟩,?_,by rw[b];omega,?_⟩;intro j g;rw[b] at g;have t:=p 0 oM;obtain⟨q,E,rfl⟩:=Hc (a:=a) (by simpa[Addr.add] using t);have hc:=p j oM;rw[Addr.add_lit] at hc;refine⟨q,E,rfl,?_,ew W _ hc⟩;rw[hc];simp[List.getD,eb (show j<e.length by omega)];intro s B;have:=i s.size (by
  rw[ep,eE];refine eK _ (jD.2 (.inl (G9 (d:= .lit (.string s.data.toList)) ?_ _ ?_)));. exact eC.2 ⟨s,B,rfl⟩
  . rw[Ha];exact lx.2 oC)
 exact this
end
section
variable {H:Type} {enc:eG×et->H} {W:eH} {gM:Nat} {sp:Nat->Bool} {held:Bool}
theorem Hd {P:Program} {e:eG} {d:ev H}: ∀{a:List (ev H)},d∈a-> ∀n∈d.weights P e,n∈ez P e a
 | x::a,hd,n,hn=>by simp only[ez,jD];rcases j4.1 hd with rfl|h;exact .inl hn;exact .inr (Hd h n hn)
theorem Aj {X:Type} [Inhabited X] {ok:X->Prop} {en:X->List et} {t e:eG} {m E:Nat} (B:Tryz.prog.underlying t=eA (.slice e)) (ag:Tryz.prog.cellsOf e=m) (A:0<m) (aa:Tryz.prog.bytesOf e=E) (M: ∀x,ok x->(en x).length=m)
  (Z: ∀n i y,ef enc ea W gM sp held n e i=eA y->(∀k∈y.1.weights ea e,k<=ed)-> ∃x:X,ok x/\i=en x) {n:Nat} {i:List et} {y:ev H×List eh}
  (h:ef enc ea W gM sp held n t i=eA y) (C: ∀k∈y.1.weights ea t,k<=ed):
  ∃(o:Option Addr) (l:List X) (c:Nat),i=[gE o l.length c]/\jk o l.length c/\gO (· <W.heap.size) W o (l.map en).flatten/\(∀x∈l,ok x)/\l.length * E<=140737488351232:=by
 rcases Deep.open_slice B h with⟨v,_⟩|⟨p,len,S,k,ao,R,ak,v,am,af,ab,ae,f,J⟩;exact⟨eI,[],0,v, .inl ⟨rfl,rfl,rfl⟩,gO.nil _ _ _,(fun x f=>by cases f),oC⟩;rw[f] at C;have an:len<=k:=by rw[ae];split<;>omega
 have ai: ∀b,b<len-> ∀a∈(R b).weights ea e,a<=ed:=by intro b j a g;refine C a ?_;rw[ep,B];exact eK _ (List.mem_append_left _ (Hd (eC.2 ⟨b,List.mem_range.2 j,rfl⟩) a g))
 have z:=C _ (by rw[ep,B];exact eO);rw[aa] at z;simp[ed] at z;rw[ag] at J;have T: ∀b,b<len-> ∃x:X,ok x/\ ∀d,d<m->W.cell? ((p.add (b * m)).add d)=(en x)[d]?:=by intro b j;obtain⟨al,U,V⟩:=J b oM;obtain⟨x,ah,rfl⟩:=Z _ _ _ V (ai b j);obtain⟨_,_,Y⟩:=World.cells?_some U;exact⟨x,ah,Y⟩
 obtain⟨Q,q⟩:=Deep.choose_lt T;have O: ∀x∈(eN len).map Q,ok x:=by intro x f;obtain⟨b,j,rfl⟩:=eC.1 f;exact(q b (List.mem_range.1 j)).1
 have I: ∀x∈((eN len).map Q).map en,x.length=m:=by intro x f;obtain⟨a,g,rfl⟩:=eC.1 f;exact M a (O a g)
 refine⟨eA p,(eN len).map Q,S,by rw[v];simp, .inr ⟨p,rfl,by simpa using af,ab⟩,?_,O,by rw[ei,eP];exact jU (eL _ oM) z⟩;intro d ad;have ac:=xA I;rw[ei,ei,eP] at ac;obtain⟨a,r,P,rfl⟩: ∃a r,r<m/\d=a * m+r:=⟨d / m,d % m,Nat.mod_lt _ A,by rw[Nat.mul_comm];exact(Nat.div_add_mod d m).symm⟩;have g:a<len:=by rcases Nat.lt_or_ge a len with h|h;exact h;have:=eL m h;omega
 have hc:=(q a g).2 r P;have L:=kL I a r P;simp only[ek,List.getElem?_range g,eB,eM] at L;rw[<-L,Deep.add_add,eb ad] at hc;have G:=(q 0 oM).2 0 A;obtain⟨s,D,rfl⟩: ∃s D,p=⟨s,D,eI⟩:=by have aj:(en (Q 0))[0]?=eA ((en (Q 0))[0]'(by rw[M _ (q 0 oM).1];exact A)):=eb _;rw[aj] at G;exact Hc (by simpa[Addr.add] using G)
 rw[Addr.add_lit] at hc;exact⟨s,D,rfl,hc,ew W _ hc⟩
theorem Ak {t:eG} {a:List eG} (s:Tryz.prog.underlying t=eA (.struct (Tryz.prog.fieldsOf t))) (hf:(Tryz.prog.fieldsOf t).toList.map (fun f=>(f.type,f.offset))=a.zipIdx) (J: ∀u∈a,Tryz.prog.cellsOf u=1) (D:Tryz.prog.cellsOf t=a.length)
  {n:Nat} {b:List et} {y:ev H×List eh} (h:ef enc ea W gM sp held n t b=eA y) (v: ∀k∈y.1.weights ea t,k<=ed):
  b.length=a.length/\ ∃m,∀i (c:i<a.length) (p:i<b.length),∃z:ev H×List eh,ef enc ea W gM sp held m a[i] [b[i]]=eA z/\ ∀k∈z.1.weights ea a[i],k<=ed:=by
 obtain⟨l,m,_,L,r,P,E⟩:=DataW.trod_struct s h;have G:y.1= .agg (l.map (·.1)):=congrArg Prod.fst L;rw[G,ep,s] at v;rw[D] at r;refine⟨r,m,fun i c p=>?_⟩;have O:(Tryz.prog.fieldsOf t).size=a.length:=by have:=congrArg List.length hf;simpa using this
 have e:i<(Tryz.prog.fieldsOf t).size:=oM
 have q:=congrArg (fun M=>M[i]?) hf;simp only[ek,eJ,eu e,eB,List.getElem?_zipIdx,eb c,Nat.zero_add,Option.some.injEq,Prod.mk.injEq] at q;obtain⟨o,C⟩:=q;have g:=E i _ (eu e);have A:i<l.length:=oM
 rw[o,C,J _ (eF c),eb A] at g;have B:(b.drop i).take 1=[b[i]]:=by rw[List.drop_eq_getElem_cons p,List.take_succ_cons,List.take_zero]
 rw[B] at g;refine⟨_,g,fun k I=>v k (DataW.weights_mem_each (j:=i) (t:=a[i]) (d:=l[i].1) ?_ ?_ k I)⟩;simp only[ek,eJ,eu e,eB,o];rw[ek,eb A];rfl
theorem yw {α:Type} {d:List α} (h:d.length=5): ∃a c1 c2 b c,d=[a,c1,c2,b,c]:=by
 match d,h with
 | [a,c1,c2,b,c],_=>exact⟨a,c1,c2,b,c,rfl⟩
theorem yx {α:Type} {e:List α} (h:e.length=6): ∃a c1 c2 b c d,e=[a,c1,c2,b,c,d]:=by
 match e,h with
 | [a,c1,c2,b,c,d],_=>exact⟨a,c1,c2,b,c,d,rfl⟩
theorem yy {α:Type} {c:List α} (h:c.length=4): ∃a c1 c2 b,c=[a,c1,c2,b]:=by
 match c,h with
 | [a,c1,c2,b],_=>exact⟨a,c1,c2,b,rfl⟩
theorem yz {α:Type} {b:List α} (h:b.length=2): ∃a c1,b=[a,c1]:=by
 match b,h with
 | [a,c1],_=>exact⟨a,c1,rfl⟩
theorem yA {n:Nat} {v:et} {y:ev H×List eh} (h:ef enc ea W gM sp held n 9 [v]=eA y) (d: ∀k∈y.1.weights ea 9,k<=ed): ∃s:ByteArray,v= .string s/\s.size<=140737488351232:=by
 obtain⟨s,a,b,_⟩:=DataW.trod_string underlying9 h;refine⟨s,(ee a).1,?_⟩;have c:y.1= .lit (.string s.data.toList):=congrArg Prod.fst b;have:=d s.size (by rw[c,Ha];exact lx.2 oC);simpa[ed] using this
theorem O4:Tryz.prog.cellsOf 4=1:=oP
theorem He:Tryz.prog.cellsOf 77=2:=oP
theorem Hf:Tryz.prog.cellsOf 71=5:=oP
theorem O5:Tryz.prog.bytesOf 77=32:=oP
theorem O6:Tryz.prog.underlying 77=eA (.struct (Tryz.prog.fieldsOf 77)):=oP
theorem O7:(Tryz.prog.fieldsOf 77).toList.map (fun f=>(f.type,f.offset))=[9,9].zipIdx:=oP
theorem O8:Tryz.prog.underlying 71=eA (.struct (Tryz.prog.fieldsOf 71)):=oP
theorem O9:(Tryz.prog.fieldsOf 71).toList.map (fun f=>(f.type,f.offset))=[9,4,4,9,9].zipIdx:=oP
theorem Pa {n:Nat} {a:List et} {y:ev H×List eh} (h:ef enc ea W gM sp held n 77 a=eA y) (l: ∀k∈y.1.weights ea 77,k<=ed): ∃x:Kv,True/\a=uI x:=by
 obtain⟨j,r,b⟩:=Ak O6 O7 (by simp[CC]) He h l;obtain⟨e,f,rfl⟩:=yz j;obtain⟨s,m,p⟩:=b 0 oF oC;obtain⟨t,o,q⟩:=b 1 oF oC;obtain⟨c,g,_⟩:=yA m p;obtain⟨d,i,_⟩:=yA o q;exact⟨(c,d),trivial,by rw[show e= .string c from g,show f= .string d from i];rfl⟩
theorem Pb {n:Nat} {d:List et} {y:ev H×List eh} (h:ef enc ea W gM sp held n 71 d=eA y) (z: ∀k∈y.1.weights ea 71,k<=ed):
  ∃x:ju,(x.old.size<=140737488355328/\x.new.size<=140737488355328)/\d=o6 x:=by
 obtain⟨v,O,a⟩:=Ak O8 O9 (by simp[CC,O4]) Hf h z;obtain⟨i,j,l,m,o,rfl⟩:=yw v;obtain⟨S,A,G⟩:=a 0 oF oC;obtain⟨T,B,P⟩:=a 1 oF oC;obtain⟨U,C,R⟩:=a 2 oF oC;obtain⟨V,D,I⟩:=a 3 oF oC;obtain⟨X,E,J⟩:=a 4 oF oC;obtain⟨e,p,_⟩:=yA A G;obtain⟨b,q,_⟩:=DataW.trod_bool underlying4 B;obtain⟨c,r,_⟩:=DataW.trod_bool underlying4 C;obtain⟨f,s,L⟩:=yA D I;obtain⟨g,t,M⟩:=yA E J;exact⟨⟨e,b,f,c,g⟩,⟨by simp only;omega,by simp only;omega⟩,by rw[show i= .string e from p,show j= .bool b from (ee q).1,show l= .bool c from (ee r).1,show m= .string f from s,show o= .string g from t];rfl⟩
instance Al:Inhabited ju:=⟨⟨eD,false,eD,false,eD⟩⟩
instance yB:Inhabited kP:=⟨⟨0,[],[],[],0,[]⟩⟩
structure sq where
 a:kP
 co:Option Addr
 po:Option Addr
 eo:Option Addr
 qo:Option Addr
 cc:Nat
 pc:Nat
 ec:Nat
 qc:Nat
instance yC:Inhabited sq:=⟨⟨default,eI,eI,eI,eI,0,0,0,0⟩⟩
def pZ (x:sq):List et:=(jG x.a x.co x.po x.eo x.qo x.cc x.pc x.ec x.qc).toList
def tq (W:eH) (x:sq):Prop:=ur W x.a x.co x.po x.eo x.qo x.cc x.pc x.ec x.qc
theorem Hg: ∀l:List Int,(l.map fun x=>[Value.int .i64 x]).flatten=l.map (.int .i64)
 | []=>rfl
 | x::l=>by rw[List.map_cons,List.flatten_cons,Hg l];rfl
theorem Pc {n:Nat} {v:et} {y:ev H×List eh} (h:ef enc ea W gM sp held n 31 [v]=eA y) (g: ∀k∈y.1.weights ea 31,k<=ed):
  ∃(o:Option Addr) (l:List Int) (c:Nat),v= gE o l.length c/\jk o l.length c/\lp (· <W.heap.size) W o l/\ ∀x∈l,-9223372036854775808<=x/\x<=9223372036854775807:=by
 obtain⟨o,l,c,a,f,e,d,_⟩:=Aj (X:=Int) (ok:=fun x=> -9223372036854775808<=x/\x<=9223372036854775807) (en:=fun x=>[.int .i64 x]) underlying31 CD oF O3 (fun _ _=>rfl)
  (fun n m y h _=>by obtain⟨i,b,_,j⟩:=ej eg h;exact⟨i,by simpa[Lit.wf,IntKind.min,IntKind.max,IntKind.signed,IntKind.bits] using j,b⟩) h g
 refine⟨o,l,c,(ee a).1,f, .js ?_,d⟩;rw[<-Hg];exact e
theorem Pd:Tryz.prog.bytesOf 71=56:=oP
theorem Pe {n:Nat} {v:et} {y:ev H×List eh} (h:ef enc ea W gM sp held n 41 [v]=eA y) (a: ∀k∈y.1.weights ea 41,k<=ed):
  ∃(o:Option Addr) (l:List Kv) (c:Nat),v= gE o l.length c/\jk o l.length c/\jS W o l:=by
 obtain⟨o,l,c,b,e,d,_,_⟩:=Aj (X:=Kv) (ok:=fun _=>True) (en:=uI) underlying41 He oF O5 (fun _ _=>rfl) (fun n f y h a=>Pa h a) h a;exact⟨o,l,c,(ee b).1,e,d⟩
theorem Pf {n:Nat} {v:et} {y:ev H×List eh} (h:ef enc ea W gM sp held n 52 [v]=eA y) (a: ∀k∈y.1.weights ea 52,k<=ed):
  ∃(o:Option Addr) (l:List ju) (c:Nat),v= gE o l.length c/\jk o l.length c/\oI W o l/\ ∀x∈l,x.old.size<=140737488355328/\x.new.size<=140737488355328:=by
 obtain⟨o,l,c,b,f,e,d,_⟩:=Aj (X:=ju) (ok:=fun x=>x.old.size<=140737488355328/\x.new.size<=140737488355328) (en:=o6) underlying52 Hf oF Pd (fun _ _=>rfl) (fun n g y h a=>Pb h a) h a;exact⟨o,l,c,(ee b).1,f,e,d⟩
theorem Pg:Tryz.prog.cellsOf 22=1:=oP
theorem Ph:Tryz.prog.cellsOf 31=1:=oP
theorem Pj:Tryz.prog.cellsOf 52=1:=oP
theorem Pk:Tryz.prog.cellsOf 41=1:=oP
theorem Hj:Tryz.prog.cellsOf 54=6:=oP
theorem Pl:Tryz.prog.cellsOf 47=1:=oP
theorem Pm:Tryz.prog.cellsOf 49=4:=oP
theorem Pn:Tryz.prog.bytesOf 54=112:=oP
theorem Po:Tryz.prog.underlying 54=eA (.struct (Tryz.prog.fieldsOf 54)):=oP
theorem Pp:(Tryz.prog.fieldsOf 54).toList.map (fun f=>(f.type,f.offset))=[3,52,41,22,3,31].zipIdx:=oP
theorem Hk:Tryz.prog.underlying 49=eA (.struct (Tryz.prog.fieldsOf 49)):=oP
theorem Pq:(Tryz.prog.fieldsOf 49).toList.map (fun f=>(f.type,f.offset))=[3,3,3,47].zipIdx:=oP
theorem Hl {q:Int} (h:Lit.wf (.int .i64 q:Lit)): -9223372036854775808<=q/\q<=9223372036854775807:=by
 simpa[Lit.wf,IntKind.min,IntKind.max,IntKind.signed,IntKind.bits] using h
theorem Pr {n:Nat} {b:List et} {y:ev H×List eh} (h:ef enc ea W gM sp held n 54 b=eA y) (J: ∀k∈y.1.weights ea 54,k<=ed):
  ∃x:sq,tq W x/\b=pZ x:=by
 obtain⟨I,ah,a⟩:=Ak Po Pp (by simp[CD,Pg,Ph,Pj,Pk]) Hj h J;obtain⟨l,m,o,p,q,r,rfl⟩:=yx I;obtain⟨ak,T,ai⟩:=a 0 oF oC;obtain⟨al,U,aa⟩:=a 1 oF oC;obtain⟨am,V,ab⟩:=a 2 oF oC;obtain⟨an,X,ac⟩:=a 3 oF oC;obtain⟨ao,Y,aj⟩:=a 4 oF oC;obtain⟨ap,Z,ad⟩:=a 5 oF oC;obtain⟨c,v,_,ae⟩:=ej eg T;obtain⟨co,s,cc,z,O,e,ag⟩:=Pf U aa;obtain⟨po,M,pc,A,P,f⟩:=Pe V ab;obtain⟨G,t,E,B,R,g,_,_⟩:=open_strs X ac;obtain⟨d,C,_,af⟩:=ej eg Y;obtain⟨qo,L,qc,D,S,i,j⟩:=Pc Z ad;refine⟨⟨⟨c,s,M,t,d,L⟩,co,po,G,qo,cc,pc,E,qc⟩,⟨O,P,R,S,e,f,g,i,Hl ae,Hl af,j,ag⟩,?_⟩;rw[show l= .int .i64 c from (ee v).1,show m=_ from z,show o=_ from A,show p=_ from B,show q= .int .i64 d from (ee C).1,show r=_ from D];rfl
theorem Hm {l:List sq}: ∀x∈l.map pZ,x.length=6:=by
 intro x a;obtain⟨b,_,rfl⟩:=eC.1 a;rfl
theorem Ps {n:Nat} {v:et} {y:ev H×List eh} (h:ef enc ea W gM sp held n 47 [v]=eA y) (g: ∀k∈y.1.weights ea 47,k<=ed):
  ∃(o:Option Addr) (l:List kP) (c:Nat),v= gE o l.length c/\jk o l.length c/\pJ W o l:=by
 obtain⟨o,l,c,t,I,E,D,_⟩:=Aj (X:=sq) (ok:=tq W) (en:=pZ) underlying47 Hj oF Pn (fun _ _=>rfl) (fun n Z y h g=>Pr h g) h g;refine⟨o,l.map (·.a),c,by rw[ei];exact(ee t).1,by rw[ei];exact I,?_⟩;intro b B;have j:b<l.length:=by simpa using B
 have C:=xA (Hm (l:=l));rw[ei] at C;have hc: ∀f,f<6-> ∃d e,o=eA ⟨d,e,eI⟩/\W.cell? ⟨d,e+(b * 6+f),eI⟩=(pZ l[b])[f]?:=by intro f G;obtain⟨d,e,z,A,_⟩:=E (b * 6+f) oM;refine⟨d,e,z,?_⟩;have i:=kL (Hm (l:=l)) b f G;rw[ek,eb j,eB,eM] at i;rw[A, <-i];exact(eb _).symm
 obtain⟨d,e,rfl,J⟩:=hc 0 oF;obtain⟨m,CE,S,L⟩:=hc 1 oF;obtain⟨p,CF,T,M⟩:=hc 2 oF;obtain⟨q,CG,U,O⟩:=hc 3 oF;obtain⟨r,CH,V,P⟩:=hc 4 oF;obtain⟨s,CI,Y,R⟩:=hc 5 oF;obtain⟨rfl,rfl⟩:d=m/\e=CE:=by simpa using S
 obtain⟨rfl,rfl⟩:d=p/\e=CF:=by simpa using T
 obtain⟨rfl,rfl⟩:d=q/\e=CG:=by simpa using U
 obtain⟨rfl,rfl⟩:d=r/\e=CH:=by simpa using V
 obtain⟨rfl,rfl⟩:d=s/\e=CI:=by simpa using Y
 have ok:=D l[b] (eF j);refine⟨d,e,l[b].co,l[b].po,l[b].eo,l[b].qo,l[b].cc,l[b].pc,l[b].ec,l[b].qc,rfl,?_,?_,?_,?_,?_,?_,?_⟩;simpa[pZ] using J;simpa[pZ,ey] using L;simpa[pZ,ey] using M;simpa[pZ,ey] using O;simpa[pZ,ey] using P;simpa[pZ,ey] using R;simpa[tq] using ok
theorem Pt {r:Reach} {b0:Nat} {v:et} {d:ev H} {p:List eh} (E:Value.okWide ea W r b0 49 v) (h:DataW.Trod enc ea W gM sp held 49 v d p) (G: ∀k∈d.weights ea 49,k<=ed):
  ∃(p gI gJ:Int) (a:List kP) (o:Option Addr) (c:Nat),v= .agg #[.int .i64 p, .int .i64 gI, .int .i64 gJ, gE o a.length c]/\pJ W o a/\jk o a.length c:=by
 obtain⟨e,rfl,S⟩:=okWide_struct Hk E;obtain⟨R,j⟩:=h;have B:(Value.agg e).cells.toList=e.toList:=rfl;rw[B] at j;obtain⟨D,T,b⟩:=Ak Hk Pq (by simp[CD,Pl]) Pm j G;obtain⟨m,n,q,s,hc⟩:=yy D;rw[hc] at b;obtain⟨Y,J,U⟩:=b 0 oF oC;obtain⟨Z,L,V⟩:=b 1 oF oC;obtain⟨aa,M,X⟩:=b 2 oF oC;obtain⟨ab,O,P⟩:=b 3 oF oC;obtain⟨f,t,_,_⟩:=ej eg J;obtain⟨g,y,_,_⟩:=ej eg L;obtain⟨i,z,_,_⟩:=ej eg M;obtain⟨o,a,c,A,I,l⟩:=Ps O P;refine⟨f,g,i,a,o,c,?_,l,I⟩;have C:e=#[.int .i64 f, .int .i64 g, .int .i64 i, .slice o a.length c]:=by rw[<-Array.toList_inj,hc,show m= .int .i64 f from (ee t).1,show n= .int .i64 g from (ee y).1,show q= .int .i64 i from (ee z).1,show s=_ from A]
 rw[C]
end
section
variable {H:Type} {enc:eG×et->H} {W:eH} {gM:Nat} {sp:Nat->Bool} {held:Bool}
end
end Go.Proofs.YtlefmmhlpgmbjaaGreat
