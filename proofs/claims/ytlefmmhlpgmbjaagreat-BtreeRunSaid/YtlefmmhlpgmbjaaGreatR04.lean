import Derived.Test.YtlefmmhlpgmbjaaGreatR03
import Derived.Laws.EntriesVeiled
import Derived.Laws.Cover1
open Option renaming none->dI,some->dN,map_some->e5
open Go.KeepsOthers renaming setCell->dJ,drew->eP
open Nat renaming le_refl->dK,zero_le->ep,reduceSub->eD,reduceAdd->eE
open Go renaming World->dL,bodyPost_ret->dP,Value->dQ,results->ea,grownBy_putObj'->ef,callsIn_wide->eo,Calls->eI,callsIn_of_wp->eJ,maxLen->e3,TypeId->e4
open Go.Op renaming bytesLess->dM
open Array renaming getElem?_eq_some_iff->dO,getElem?_eq_getElem->dR,replicate_zero->eg,replicate_succ->eh
open Bool renaming false->dS,true->en
open Go.RowKit renaming Below->dT
open Go.RowKit.Below renaming refl->dU,heap_setCell->dW,heap_alloc->e7
open Go.Proofs.Tryz renaming prog->dV,results91->eb,results16->eH,results138->eM,ntmps91->eQ,func103->eR,func91->eU,f53->eV
open List renaming getElem_mem->dX,length_nil->dY,size_toArray->ec,nil_append->ed,append_assoc->ee,cons_append->ei,append_toArray->ej,take_succ_eq_append_getElem->et,take_of_length_le->eu,push_toArray->ev,length_drop->ey,drop_eq_getElem_cons->eB,getElem?_eq_getElem->eC,length_map->eG,take_length->eK,eq_nil_of_length_eq_zero->eL,prefix_append_right_inj->eN,getD_eq_getElem?_getD->eO,drop_of_length_le->eS,takeWhile_prefix->eT,takeWhile_cons->eW,map_eq_nil_iff->eX,length_pos_iff->eY,flatten_append->eZ,zip_nil_right->e0,zip_cons_cons->e1,prefix_append->e2,flatten_cons->e6
open Option.some renaming injEq->ek
open Prod.mk renaming injEq->ew
open Go.ByteArray renaming toList_eq->ez
open Go.Lib renaming compareBytes->eA
open Go.Fence renaming wide->eF
open Go.Proofs.Tryz
set_option maxRecDepth 100000
set_option maxHeartbeats 4000000
open Go.Value renaming int->gE,slice->hA,string->hE,bool->hF,pointer->hG,agg->hI,tuple->hM
open Go.IntKind renaming i64->ha
open Go.Ending renaming returned->ht
open Go.Obj renaming cells->hP
namespace Go.Proofs.YtlefmmhlpgmbjaaGreat
open Go.RowKit
variable {w:dL}{gM b k:Nat}{pv:dQ}{ps:List Kv}
theorem D9 {n:Nat} {e t:e4} {v:dQ} {xs:List dQ} {cs:Array dQ} (h:gW w gM e k v n xs) (f:Bx w b cs t) (g:e≠t):v.ownBlock≠dN b:=by
 intro c;rcases h.2 with⟨rfl,_⟩|⟨q,i,j,rfl,_,a,_⟩;simp[Value.ownBlock] at c;simp[Value.ownBlock] at c;subst c;unfold Bx at f;rw[f] at a;simp at a;exact g a.2.symm
theorem Ea {W:dL} {row:Option Nat} {v:dQ} (h:w.grownBy W row) (g:w.heap.size<=b):w.grownBy (W.setCell ⟨b,k,dI⟩ v) row:=by
 have a:=iT (b:=b) (k:=k) (v:=v) (dU w.heap.size W) g;exact⟨a.os.trans h.os,a.tape.trans h.tape,a.output.trans h.output,jU h.size a.size,fun f c i=>(a.block f c).trans (h.block f c i)⟩
theorem h9.xD (h:h9 gM w (.mk b pv (hA dI 0 0) ps [] 0)) (page:Int):h9 gM (w.setCell ⟨b,3,dI⟩ (gE ha page)) (.mk b pv (hA dI 0 0) ps [] page):=by
 have g:=h.hb;have a:=h.hx;have c:=h.hp;have i:=h.hk;simp only[AT.b,AT.pv,AT.kv,AT.gC,AT.ps,AT.page] at g a c i;refine .mk _ _ _ _ _ _ g ?_ (c.same fun f e=>dW w ⟨b,3,dI⟩ _ f fun j=>D9 c a oF (by rw[e,j])) (i.same fun f e=>by simp[Value.ownBlock] at e) (fun _ h=>by cases h);have:=a.set 3 (gE ha page);unfold gX at this |-;simpa using this
theorem h9.vT {g:dQ} {gC:List AT} {D:Int} (h:h9 gM w (.mk b pv g ps gC D)) (z:(b::(pv.ownBlock.toList++(g.ownBlock.toList++AT.iO gC))).Nodup) (page:Int):
  h9 gM (w.setCell ⟨b,3,dI⟩ (gE ha page)) (.mk b pv g ps gC page):=by
 have i:=h.hb;have j:=h.hx;have q:=h.hp;have u:=h.hk;have v:=h.hc;simp only[AT.b,AT.pv,AT.kv,AT.gC,AT.ps,AT.page] at i j q u v;have c:=(List.nodup_cons.1 z).1;simp only[jD,not_or] at c;refine .mk _ _ _ _ _ _ i ?_ (q.same fun f e=>dW w ⟨b,3,dI⟩ _ f fun a=>c.1 (by rw[e,a];simp))
  (u.same fun f e=>dW w ⟨b,3,dI⟩ _ f fun a=>c.2.1 (by rw[e,a];simp)) fun t y=>(v t y).same fun x C=>dW w ⟨b,3,dI⟩ _ x (fun a=>c.2.2 (AT.iK.2 ⟨t,y,by subst a;exact C⟩))
 have:=j.set 3 (gE ha page);unfold gX at this |-;simpa using this
section
variable (B0 lb mb:Nat) (d:ik) (po co:Option Addr) (pc cc:Nat) (gI gJ:Int)
theorem JB:qK B0 lb mb d po co pc cc gI gJ 0:=by
 intro u q c w h i a f j
 by_cases g:gI+2<=gJ
 have:=a.len g;omega;have:c=[]:=by
  cases c with
  | nil=>rfl
  | cons x l=>have:=a.2 x oC;omega
 subst this;simp at f
theorem JC (f:Nat) (bX:qK B0 lb mb d po co pc cc gI gJ f) (aq:iW d=0) (bP:jE d gI gJ=en) (bQ:f<=1000000):qK B0 lb mb d po co pc cc gI gJ (f+1):=by
 intro a page h w Z aX bz cd bu;obtain⟨bg,b6,b7,b8,b9⟩:=ra bP;have cf:=pd (nY aq).1;obtain⟨b1,aY⟩:=nM (tV (iR d gI gJ (f+1) a page h) mb w);rw[aY];have H:=gF aY;have bV:=Z.hx;obtain⟨be,bY⟩:=bV.c2;unfold tU at be;have bS:=D3 aX page bu;obtain⟨bM,ap⟩:=nM (decide (page∈h));rw[ap] at bS;have bC:=gF Z;have bD:=gF aX;clear aY Z aX;cases aI:decide (page<gI+2);rotate_left;. have bh:=of_decide_eq_true aI;have u:Hid (iR d gI gJ (f+1) a page h=dI):=gF (by rw[iR,if_pos (.inl bh)]);go_enter eU,eQ;go_wp2;refine dP (v:= hM #[hG dI, gE ha 0, hF dS]) (by simp[ea,eb,go_sem]) rfl ?_;rw[<-H.o];unfold tV;rw[u.o];exact⟨World.grownBy.refl _ _,_,_,rfl⟩
 have bh:=of_decide_eq_false aI;cases aJ:decide (gJ<=page);rotate_left;focus have bi:=of_decide_eq_true aJ;have u:Hid (iR d gI gJ (f+1) a page h=dI):=gF (by rw[iR,if_pos (.inr (.inl bi))])
 rotate_left;focus
  have bi:=of_decide_eq_false aJ;cases bM
  case' true=>have ae:=of_decide_eq_true ap;have u:Hid (iR d gI gJ (f+1) a page h=dI):=gF (by rw[iR,if_pos (.inr (.inr ae))]);clear ap ae
  rotate_left
  case' false=>
   have ae:=of_decide_eq_false ap;clear ap;have aO:=wS aq bg (i:=page) oM oM;have aP:=wR aq (i:=page) oM oM;have cg:=bz.len oM;have bU:=bz.snoc (page:=page) oM oM ae;obtain⟨L,Z⟩:=nM (gQ d page);rw[Z] at aO aP;obtain⟨s,av⟩:=nM (bs L);rw[av] at aP;have aQ:s.size=512:=by rw[<-av,lM,aO]
   have bn:iR d gI gJ (f+1) a page h=(if L.getD 0 0=76 then
    if (L.getD 1 0).toNat<1\/3<(L.getD 1 0).toNat\/(a=dS/\(L.getD 1 0).toNat<2) then dI
    else match jm (L.getD 1 0).toNat (L.drop 2) with
     | none=>dI
     | some ps=>if jg (j5 ps)=L then dN (.mk ps [] page,1,h++[page]) else dI
    else if L.getD 0 0≠78\/(L.getD 1 0).toNat<2\/8<(L.getD 1 0).toNat\/(a=dS/\(L.getD 1 0).toNat<4) then dI
    else match jn (iR d gI gJ f dS) (mg (L.drop 2) (L.getD 1 0).toNat) dI (h++[page]) with
     | none=>dI
     | some (gC,k,aT)=>if jg (kd gC)=L then dN (.mk [] gC page,k+1,aT) else dI):=by
    rw[iR,if_neg fun q=>q.elim (fun q=>oM) fun q=>q.elim (fun q=>oM) ae,Z];rfl
   have G:=gF bn;have a6: ∀(i:Nat) (q:i<s.size),s[i].toNat=(L.getD i 0).toNat:=fun i q=>by
    subst av;have bj:i<L.length:=oM
    rw[vQ _ _ bj,eO,eC bj];rfl
   obtain⟨a0,aK⟩:=nM ((L.getD 0 0).toNat);obtain⟨a1,aL⟩:=nM ((L.getD 1 0).toNat);have b4:(s[0]' oM).toNat=a0:=by rw[a6,aK]
   have b5:(s[1]' oM).toNat=a1:=by rw[a6,aL]
   have b2:a0<256:=by rw[<-aK];exact UInt8.toNat_lt _
   have b3:a1<256:=by rw[<-aL];exact UInt8.toNat_lt _
   have aF:=gF aK;have M:=gF aL;have aG:=gF av;have bJ:=gF aP;have ak:=gF aO;clear bn a6 aK aL av aP aO Z bg ae;go_enter eU,eQ;go_wp2_with (first| (at_mapUpdate;refine DZ rfl _ _ _ rfl rfl bD.o (by unfold e3;omega) page bu rfl rfl ?_;intro W1 bm aZ;have aD:=gF (bC.o.grown aZ);have bd:=gF bm;have bb:=gF aZ;obtain⟨bf,bZ⟩:=aD.o.hx.c2;unfold tU at bf;clear bm aZ)|fail);refine(AP d _ page W1 aD.o.nJ bJ.o).mono ?_;rintro e c ⟨rfl,aM⟩;have bc:=gF (aD.o.grown (gY aM (dK _) _));have aE:=gF (bd.o.below aM);have ag:Hid (w.grownBy c (dN mb)):=gF (bb.o.trans (gY aM (dK _) _));obtain⟨bN,ch⟩:=bc.o.hx.c2;unfold tU at bN;clear bf bZ aD bd bb aM be bY;go_upto_region 10 with fail
   cases aA:decide (a0=76);focus
    have aB:=of_decide_eq_false aA;cases aR:decide (a0=78);focus
     have aS:=of_decide_eq_false aR;have u:Hid (iR d gI gJ (f+1) a page h=dI):=gF (by
      rw[G.o,if_neg (fun q=>aB (by rw[<-aF.o,q];rfl)),if_pos (.inl fun q=>aS (by rw[<-aF.o,q];rfl))])
     have bB:((a0:Int)==76)=false:=oN
     have b0:((a0:Int)==78)=false:=oN
     clear aA aR
    rotate_left;focus
     have aS:=of_decide_eq_true aR;have af:L.getD 0 0=78:=UInt8.toNat_inj.1 (by rw[aF.o,aS];rfl);have bl: ¬L.getD 0 0=76:=by rw[af];decide
     have bB:((a0:Int)==76)=false:=oN
     have b0:((a0:Int)==78)=true:=oN
     have C:=gF (gK af bl);clear aA aB aR aS af bl;cases g:(decide (2<=a1)&&decide (a1<=8)&&(a||decide (4<=a1)));focus
      have u:Hid (iR d gI gJ (f+1) a page h=dI):=gF (by
       rw[G.o,if_neg C.o.2,M.o,if_pos];rw[C.o.1];cases a<;>simp at g |- <;>omega)
      cases ac:decide ((2:Int)<=(a1:Int));focus have a9:=of_decide_eq_false ac
      rotate_left;focus
       have a9:=of_decide_eq_true ac;cases ad:decide ((a1:Int)<=8);focus have a':=of_decide_eq_false ad
       rotate_left;focus
        have a':=of_decide_eq_true ad;cases a
        case' true=>simp at g;omega
        case' false=>have ba: ¬(4:Int)<=(a1:Int):=by simp at g;omega
     rotate_left 3;.
      have ac:(2:Int)<=(a1:Int):=by simp at g;omega
      have ad:(a1:Int)<=8:=by simp at g;omega
      have T:Hid (¬(L.getD 0 0≠78\/a1<2\/8<a1\/(a=dS/\a1<4))):=gF (by
       rw[C.o.1];cases a<;>simp at g |- <;>omega)
      have ar:s.extract 2 s.size=bs (L.drop 2):=by rw[aQ, <-aG.o,vF,eu (by rw[ey,ak.o];omega)]
      have a4:(h++[page]).length=h.length+1:=oC
      have a2:=JA B0 lb mb d po co pc cc gI gJ f bX oM oM bQ (L.drop 2) a1 (by rw[ey,ak.o];omega) (by rw[ey,ak.o];omega) oM oM (h++[page]) c bc.o (by rw[a4];exact aE.o) bU (by rw[a4];omega);rw[<-ar,aQ] at a2;have bF:=gF a2;have aC:(a||decide ((4:Int)<=(a1:Int)))=true:=by simp at g |-;rcases g.2 with q|q;exact .inl q;exact .inr oM
      clear a2 ar g a4;cases a
      case' true=>go_wp2_with fail
      case' false=>
       have ba:(4:Int)<=(a1:Int):=by simpa using aC
       clear aC;go_wp2_with fail
      all_goals
       refine bF.o.mono ?_;rintro e D ⟨aN,z⟩;have ah:Hid (w.grownBy D (dN mb)):=gF (ag.o.trans aN);have bW:=aN.size;cases j:jn (iR d gI gJ f dS) (mg (L.drop 2) a1) dI (h++[page]) with
       | none=>rw[j] at z;simp only at z;obtain⟨v,k,rfl⟩:=z;have u:Hid (tV (iR d gI gJ (f+1) _ page h) mb w=tV dI mb w):=gF (by rw[G.o,if_neg C.o.2,M.o,if_neg T.o,j]);clear j aN;go_wp2;refine dP (v:= hM #[hG dI, gE ha 0, hF dS]) (by simp[ea,eb,go_sem]) rfl ?_;rw[<-H.o,u.o];exact⟨ah.o,_,_,rfl⟩
       | some r=>
        obtain⟨az,k,aT⟩:=r;rw[j] at z;simp only at z;obtain⟨bA,R,rfl,ax,aa,au,bp⟩:=z;obtain⟨br,bq⟩:=vS j;have bt:az.length=a1:=by rw[br];simp[mg]
        have bx:R.length=a1:=by rw[<-bt, <-ax,eG]
        have bo: ∀aH∈R,qI aH.nd:=fun aH aq=>by obtain⟨p,u1,a7,u2,bR⟩:=bq aH.nd (by rw[<-ax];exact List.mem_map.2 ⟨aH,aq,rfl⟩);obtain⟨⟨aI,aJ,ca,cb,_⟩,_⟩:=A5 oM oM f bR;exact⟨aI,aJ,oM,oM⟩
        obtain⟨a7,a3⟩:=nM (k+1);rw[a3];have bw:R.isEmpty=false:=by cases R with
         | nil=>simp at bx;omega
         | cons=>rfl
        have ay:=aa.hx;obtain⟨am,a8,aW⟩:=ay.c3;simp only[AT.b,AT.pv,AT.kv,AT.gC,AT.page,bw] at am a8 aW;unfold gX at am;have ab:=aa.vT (by rw[AT.fp] at au;exact au) page;have O:=DU _ _ _ ab (by show 2<=R.length;omega) (by show R.length<=8;omega) bo;simp only[AT.ptr,AT.b,AT.gC] at O;rw[ax] at O;have an:w.heap.size<=c.heap.size:=ag.o.size;have ai:Hid (w.grownBy (D.setCell ⟨c.heap.size,3,dI⟩ (gE ha page)) (dN mb)):=gF (Ea ah.o an);have aU:Hid (kx (D.setCell ⟨c.heap.size,3,dI⟩ (gE ha page)) mb aT.length aT):=gF (bp.same (w':=D.setCell ⟨c.heap.size,3,dI⟩ (gE ha page)) (dW D ⟨c.heap.size,3,dI⟩ _ mb (by have:=aE.o.lt;show mb≠c.heap.size;omega)));have aV:=gF O;have aj:=gF ab;have bI:Hid ((AT.mk c.heap.size (hA dI 0 0) bA [] R page).fp.Nodup):=gF (by rw[AT.fp] at au |-; exact au);have bK:Hid ((AT.mk c.heap.size (hA dI 0 0) bA [] R page).nd= .mk [] az page):=gF (by rw[AT.pB, <-ax];rfl);have bG:=gF a3;clear O ab aa ay au bp bo bq br bt bx bw ax a3 aN;go_wp2_with fail;refine aV.o.mono ?_;rintro e bL ⟨rfl,I⟩;have aw:s.toList=L:=by rw[ez, <-aG.o,q7]
        have al:=gF aw;clear aw
        by_cases y:jg (kd az)=L
        .
         have E:jg (kd az)=s.toList:=by rw[al.o];exact y
         have X:=gF y;have U:=gF E;have Y:=gF j;clear y E j;go_wp2;refine dP (v:= hM #[hG (dN ⟨c.heap.size,0,dI⟩), gE ha (a7:Int), hF en]) (by simp[ea,eb,go_sem,U.o]) rfl ?_;rw[<-H.o,G.o,if_neg C.o.2,M.o,if_neg T.o,Y.o];simp only;rw[if_pos X.o,bG.o];exact⟨ai.o.trans (gY I (dK _) _),_,rfl,bK.o,(aj.o.down an).ij I,bI.o,aU.o.below I⟩
        have E: ¬jg (kd az)=s.toList:=by rw[al.o];exact y
        have X:=gF y;have U:=gF E;have Y:=gF j;clear y E j;go_wp2;refine dP (v:= hM #[hG (dN ⟨c.heap.size,0,dI⟩), gE ha (a7:Int), hF dS]) (by simp[ea,eb,go_sem,U.o]) rfl ?_;rw[<-H.o,G.o,if_neg C.o.2,M.o,if_neg T.o,Y.o];simp only;rw[if_neg X.o];exact⟨ai.o.trans (gY I (dK _) _),_,_,rfl⟩
     all_goals clear g
   rotate_left 4;focus
    have aB:=of_decide_eq_true aA;have af:L.getD 0 0=76:=UInt8.toNat_inj.1 (by rw[aF.o,aB];rfl);have bB:((a0:Int)==76)=true:=oN
    have C:=gF af;clear aA aB af;cases g:(decide (1<=a1)&&decide (a1<=3)&&(a||decide (2<=a1)));focus
     have u:Hid (iR d gI gJ (f+1) a page h=dI):=gF (by
      rw[G.o,if_pos C.o,M.o,if_pos];cases a<;>simp at g |- <;>omega)
     cases ac:decide ((1:Int)<=(a1:Int));focus have a9:=of_decide_eq_false ac
     rotate_left;focus
      have a9:=of_decide_eq_true ac;cases ad:decide ((a1:Int)<=3);focus have a':=of_decide_eq_false ad
      rotate_left;focus
       have a':=of_decide_eq_true ad;cases a
       case' true=>simp at g;omega
       case' false=>have ba: ¬(2:Int)<=(a1:Int):=by simp at g;omega
    rotate_left 3;.
     have ac:(1:Int)<=(a1:Int):=by simp at g;omega
     have ad:(a1:Int)<=3:=by simp at g;omega
     have aC:(a||decide ((2:Int)<=(a1:Int)))=true:=by simp at g |-;rcases g.2 with q|q;exact .inl q;exact .inr oM
     have T:Hid (¬(a1<1\/3<a1\/(a=dS/\a1<2))):=gF (by
      cases a<;>simp at g |- <;>omega)
     have ar:s.extract 2 s.size=bs (L.drop 2):=by rw[aQ, <-aG.o,vF,eu (by rw[ey,ak.o];omega)]
     have a5:=Jv (hG (dN ⟨lb,0,dI⟩)) (L.drop 2) a1 c (by rw[ey,ak.o];omega) oM;rw[<-ar,aQ] at a5;have bH:=gF a5;clear a5 ar g;cases a
     case' true=>go_wp2_with fail
     case' false=>
      have ba:(2:Int)<=(a1:Int):=by simpa using aC
      clear aC;go_wp2_with fail
     all_goals
      refine bH.o.mono ?_;rintro e D ⟨z,ao⟩;have ah:Hid (w.grownBy D (dN mb)):=gF (ag.o.trans (gY ao (dK _) _));have bE:=gF (aE.o.below ao);have bW:=ao.size;cases j:jm a1 (L.drop 2) with
      | none=>rw[j] at z;simp only at z;subst z;have u:Hid (tV (iR d gI gJ (f+1) _ page h) mb w=tV dI mb w):=gF (by rw[G.o,if_pos C.o,M.o,if_neg T.o,j]);clear j ao;go_wp2;refine dP (v:= hM #[hG dI, gE ha 0, hF dS]) (by simp[ea,eb,go_sem]) rfl ?_;rw[<-H.o,u.o];exact⟨ah.o,_,_,rfl⟩
      | some ps=>
       rw[j] at z;simp only at z;obtain⟨pv,rfl,aa⟩:=z;obtain⟨ce,bv⟩:=tE j;have ay:=aa.hx;obtain⟨am,a8,aW⟩:=ay.c3;simp only[AT.b,AT.pv,AT.kv,AT.gC,AT.page,List.isEmpty_nil] at am a8 aW;unfold gX at am;have ab:=aa.xD page;have O:=DN _ _ _ ab rfl (by show ps.length<=3;omega) bv;simp only[AT.ptr,AT.b,AT.ps] at O;have an:w.heap.size<=c.heap.size:=ag.o.size;have ai:Hid (w.grownBy (D.setCell ⟨c.heap.size,3,dI⟩ (gE ha page)) (dN mb)):=gF (Ea ah.o an);have aU:Hid (kx (D.setCell ⟨c.heap.size,3,dI⟩ (gE ha page)) mb (h++[page]).length (h++[page])):=gF (by
        have bk:=bE.o.same (w':=D.setCell ⟨c.heap.size,3,dI⟩ (gE ha page)) (dW D ⟨c.heap.size,3,dI⟩ _ mb (by have:=aE.o.lt;show mb≠c.heap.size;omega));rwa[iI])
       have aV:=gF O;have aj:=gF ab;have u:Hid (∀r,iR d gI gJ (f+1) r page h=iR d gI gJ (f+1) r page h):=gF fun _=>rfl;clear O ab aa ay ao bv;go_wp2_with fail;refine aV.o.mono ?_;rintro e bL ⟨rfl,I⟩;have aw:s.toList=L:=by rw[ez, <-aG.o,q7]
       have al:=gF aw;clear aw
       by_cases y:jg (j5 ps)=L
       .
        have E:jg (j5 ps)=s.toList:=by rw[al.o];exact y
        have X:=gF y;have U:=gF E;have Y:=gF j;clear y E j;go_wp2;refine dP (v:= hM #[hG (dN ⟨c.heap.size,0,dI⟩), gE ha 1, hF en]) (by simp[ea,eb,go_sem,U.o]) rfl ?_;rw[<-H.o,G.o,if_pos C.o,M.o,if_neg T.o,Y.o];simp only;rw[if_pos X.o];refine⟨ai.o.trans (gY I (dK _) _),_,rfl,?_,(aj.o.down an).ij I,?_,aU.o.below I⟩;rw[AT.pB];rfl;rw[AT.fp];have bk:(Value.slice dI 0 0).ownBlock.toList=[]:=rfl;have bO:AT.iO []=[]:=rfl;rw[bk,bO,ed,List.append_nil,List.nodup_cons];exact⟨fun bT=>D9 (v:=pv) (b:=c.heap.size) aj.o.hp aj.o.hx oF (by simpa using bT),by cases pv.ownBlock<;>simp⟩
       have E: ¬jg (j5 ps)=s.toList:=by rw[al.o];exact y
       have X:=gF y;have U:=gF E;have Y:=gF j;clear y E j;go_wp2;refine dP (v:= hM #[hG (dN ⟨c.heap.size,0,dI⟩), gE ha 1, hF dS]) (by simp[ea,eb,go_sem,U.o]) rfl ?_;rw[<-H.o,G.o,if_pos C.o,M.o,if_neg T.o,Y.o];simp only;rw[if_neg X.o];exact⟨ai.o.trans (gY I (dK _) _),_,_,rfl⟩
    all_goals clear g
   all_goals go_wp2;refine dP (v:= hM #[hG dI, gE ha 0, hF dS]) (by simp[ea,eb,go_sem]) rfl ?_;rw[<-H.o];unfold tV;rw[u.o];exact⟨ag.o,_,_,rfl⟩
 all_goals go_enter eU,eQ;go_wp2;refine dP (v:= hM #[hG dI, gE ha 0, hF dS]) (by simp[ea,eb,go_sem]) rfl ?_;rw[<-H.o];unfold tV;rw[u.o];exact⟨World.grownBy.refl _ _,_,_,rfl⟩
end
open Go.RowKit Go.Shelf
variable {T:Nat->Prop}{W:dL}
attribute [local go_sem] Oper.semAt_some
inductive Nd.Wf:Nd->Prop
 | mk (ps:List Kv) (gC:List Nd) (page:Int) (h:gC=[]\/ps=[]) (hk: ∀k∈gC,Nd.Wf k):Nd.Wf (.mk ps gC page)
theorem Nd.Wf.kid {n:Nd} (h:n.Wf): ∀k∈n.gC,k.Wf:=by cases h;assumption
theorem Nd.Wf.or {n:Nd} (h:n.Wf):n.gC=[]\/n.ps=[]:=by cases h;assumption
theorem AT.vU {t:AT} (h:t.nd.Wf):t.nd.iv=t.ps++(t.gC.map fun k=>k.nd.iv).flatten:=by
 rcases h.or with a|a;rw[Nd.iJ a,AT.jb];rw[AT.gT,eX] at a;rw[a];simp
 by_cases c:t.nd.gC=[]
 rw[Nd.iJ c,AT.jb];rw[AT.gT,eX] at c;rw[c];simp;rw[Nd.iu c,AT.gT,List.map_map];rw[AT.jb] at a;rw[a];rfl
theorem h9.rJ {gM:Nat} {W':dL} {t:AT} (h:h9 gM W t) (g:iL T W W') (f: ∀x∈t.fp,T x):h9 gM W' t:=
 h.same fun x c=>by have a:=(h.lt x c).2;exact(g x _ (f x c) (dR a)).trans (dR a).symm
theorem JD {m u:Nat} {P:Program} {l:Nat} {args:Array dQ} {R:Ending->dL->Prop} (h:YieldAt eF m P l args W R):YieldAt eF u P l args W R:=by
 obtain⟨g,tmps,a,c,i,j,q⟩:=h;exact⟨g,tmps,a,c,i,j,fun f cs _=>q f cs (room_wide _)⟩
theorem iL.alloc (W:dL) (o:Obj):iL T W (W.alloc o):=fun k _ _ a=>(e7 W o k (dO.1 a).1).trans a
theorem A6 {w w':dL} {g i:Nat} (h:w'.heap[g]?=w.heap[g]?):w'.cell? ⟨g,i,dI⟩=w.cell? ⟨g,i,dI⟩:=by simp[World.cell?,h]
abbrev tW (p:Kv):dQ:= hI #[hE p.1, hE p.2]
def wV (wc:Nat):Array dQ:=#[.func (.func 102) #[] #[hG (dN ⟨wc,0,dI⟩)]]
section
variable (l gM wc N:Nat) (T:Nat->Prop) (J Jx:List Kv->dL->Prop)
 (hJ: ∀s W W',J s W->W.grownBy W' dI->J s W')
 (hY: ∀m pre x W1,J pre W1->pre.length<N->YieldAt eF m dV l #[tW x] W1 fun e W'=>(e= ht (hF en)/\J (pre++[x]) W'/\iL T W1 W')\/(e= ht (hF dS)/\Jx (pre++[x]) W'))
 (y7:T wc)
include hJ hY y7
theorem JE: ∀(t:AT) (W:dL) (pre:List Kv),h9 gM W t->t.nd.Wf->(∀x∈t.fp,T x)->Bx W wc (wV wc) 156->J pre W->pre.length+t.nd.iv.length<=N->N<=1000000->
  eI dV 102 #[t.ptr, .func (.yield l) #[] #[], hG (dN ⟨wc,0,dI⟩)] W fun e W'=>
   (e= ht (hF en)/\J (pre++t.nd.iv) W'/\iL T W W')\/(e= ht (hF dS)/\ ∃ys,ys <+: t.nd.iv/\Jx (pre++ys) W'):=by
 intro t
 induction t using AT.ind with
 | h b pv br ps i bs bd=>
  intro W pre Y aP G aS aH ag a4;have y:=Y.hx;have I:=Y.hp;have H:=Y.hk;have ah:=Y.hc;have aQ:=aP.kid;have aw:=AT.vU aP;simp only[AT.b,AT.pv,AT.kv,AT.gC,AT.ps,AT.page,AT.gT] at y I H ah aw aQ;rw[aw] at ag |-;simp only[AT.ptr,AT.b];simp only[AT.fp,j4,jD] at G;obtain⟨po,pc,rfl,bq,bp⟩:=I.at;obtain⟨aU,aT,rfl,bc,bo⟩:=H.at;obtain⟨m,Z⟩:=nM ps.length;obtain⟨q,aa⟩:=nM i.length;have aO:i.length<=e3:=by rcases bc with⟨_,h,_⟩|⟨_,_,a2,bk⟩<;>omega
  unfold e3 at aO;rw[aa] at aO;rw[Z,aa] at y;obtain⟨C,an⟩:=nM ((i.map fun k=>k.nd.iv));rw[an] at ag |-;rw[iI,Z] at ag;obtain⟨O,aA⟩:=y.c2;unfold gX at O;have ab:=gF Z;have al:=gF aa;have aj:=gF an;have a6:T b:=G b (.inl rfl);have a8: ∀g,(Value.slice po m pc).ownBlock=dN g->T g:=fun g e=>G g (.inr (.inl (by rw[Z];simpa using e)));have a7: ∀g,(Value.slice aU q aT).ownBlock=dN g->T g:=fun g e=>G g (.inr (.inr (.inl (by rw[aa];simpa using e))));have aI: ∀c∈i,∀x∈c.fp,T x:=fun c ah x y=>G x (.inr (.inr (.inr (AT.iK.2 ⟨c,ah,y⟩))));have aZ:=gF hY;have aX:=gF hJ;have aY:=gF aH;clear hY hJ Z aa an G aw Y aH;obtain⟨n,bn⟩: ∃n,9<=n:=⟨9,dK _⟩;refine(eo (n:=n)).1 ?_;have bb:Fence.wide.round=none:=rfl;have a2:1<=n:=oM
  refine eJ func102 rfl trivial ?_ bb;simp only[ntmps102,ec,j1,dY,eE,eD,eh,eg,ev,ej,ed,ei];gi_wp2
  gi_loopw [15] (fun D wr=> ∃k:Nat,k<=m/\D= gE ha k/\J (pre++ps.take k) wr/\iL T W wr) (fun D _=>m - (intOf D).toNat)
  case atStart=>exact⟨0,ep _,rfl,by simpa using aY.o,iL.refl _ _⟩
  case round=>
   clear O aA;obtain⟨k,bm,rfl,R,f⟩:=hrel
   by_cases av:k<m
   .
    have u:k<ps.length:=by rw[ab.o];exact av
    obtain⟨g,c,e,M,aE,ba,U⟩:=vO I u;obtain⟨rfl,rfl⟩:po=dN ⟨g,0,dI⟩/\pc=c:=by simpa using e
    have aq:T g:=a8 g rfl;have z:=(I.lt g U).2;have j:wr.heap[g]?=W.heap[g]?:=(f g _ aq (dR z)).trans (dR z).symm;have v:wr.cell? ⟨g,k * 2,dI⟩=dN (hE ps[k].1):=by rw[A6 j];exact M
    have ad:wr.cell? ⟨g,k * 2+1,dI⟩=dN (hE ps[k].2):=by rw[A6 j];exact aE
    have a9:g<wr.heap.size:=by rw[dR z] at j;exact(dO.1 j).1
    have E:Hid (ps.take (k+1)=ps.take k++[ps[k]]):=gF (et u);have ac:Hid (ps.take (k+1) <+: ps++C.flatten):=gF ((List.take_prefix _ _).trans (e2 _ _));have aN:(pre++ps.take k).length<N:=by rw[iI,List.length_take];omega
    obtain⟨⟨az,aB⟩,aK⟩: ∃p:Kv,ps[k]=p:=⟨_,rfl⟩;rw[aK] at v ad E;simp only at v ad;have aG:=aX.o _ _ _ R (World.grownBy_alloc wr (hP #[hE az, hE aB] 77) dI);obtain⟨bj,tmps,bg,bh,ai,a5⟩:=aZ.o (n - 1) _ (az,aB) _ aG aN;unfold tW at ai;dsimp only at ai;have ak:=gF (f.trans (iL.alloc wr (hP #[hE az, hE aB] 77)));rw[ab.o] at ba;clear aK M aE e U j aN R aG f aS y I H;gi_wp2;refine a5.mono ?_;rintro e a1 (⟨rfl,ao,au⟩|⟨rfl,ap⟩);.
     clear ai v ad;gi_wp2;go_roundw;case rel=>exact⟨k+1,oM,oQ,by rw[E.o, <-ee];exact ao,ak.o.trans au⟩
     case measure=>simp[intOf];omega
    clear ai v ad;gi_wp2;go_ret;exact .inr ⟨rfl,_,ac.o,by rw[E.o, <-ee];exact ap⟩
   obtain⟨be,rfl⟩:=nP wr;obtain rfl:k=m:=oM
   have aR:Bx be b _ _:=f _ _ a6 y;obtain⟨O,aA⟩:=aR.c2;unfold gX at O;rw[show pre++ps.take k=pre++(ps++(C.take 0).flatten) by rw[<-ab.o,eK];simp] at R;have aC:=gF R;have aD:=gF f;clear aR R f y;gi_wp2;clear O aA
   gi_loopw [29] (fun D aW=> ∃a:Nat,a<=q/\D= gE ha a/\J (pre++(ps++(C.take a).flatten)) aW/\iL T W aW) (fun D _=>q - (intOf D).toNat)
   case atStart=>exact⟨0,ep _,rfl,aC.o,aD.o⟩
   case round=>
    obtain⟨a,bl,rfl,af,f⟩:=hrel;clear aC aD
    by_cases av:a<q
    .
     have u:a<i.length:=by rw[al.o];exact av
     have aL:a<C.length:=by rw[<-aj.o,eG];exact u
     obtain⟨g,c,e,M,a',U⟩:=qH H u;obtain⟨rfl,rfl⟩:aU=dN ⟨g,0,dI⟩/\aT=c:=by simpa using e
     have aq:T g:=a7 g rfl;have z:=(H.lt g U).2;have j:wr.heap[g]?=W.heap[g]?:=(f g _ aq (dR z)).trans (dR z).symm;have v:wr.cell? ⟨g,a,dI⟩=dN i[a].ptr:=by rw[A6 j];exact M
     have a9:g<wr.heap.size:=by rw[dR z] at j;exact(dO.1 j).1
     have ax:Bx wr wc (wV wc) _:=f _ _ y7 aS;obtain⟨am,aV⟩:=ax.c2;unfold wV at am;have ae:C[a]=i[a].nd.iv:=by simp only[<-aj.o,List.getElem_map]
     have ar:C.flatten=(C.take a).flatten++(C[a]++(C.drop (a+1)).flatten):=by rw[<-e6, <-eB aL, <-eZ,List.take_append_drop]
     have aM:(pre++(ps++(C.take a).flatten)).length+i[a].nd.iv.length<=N:=by rw[ar,iI,iI] at ag;rw[<-ae,iI,iI,ab.o];omega
     have X:=bd i[a] (dX u) wr (pre++(ps++(C.take a).flatten)) ((ah _ (dX u)).rJ f (aI _ (dX u))) (aQ _ (List.mem_map.2 ⟨_,dX u,rfl⟩)) (aI _ (dX u)) ax af aM a4;have E:Hid ((C.take (a+1)).flatten=(C.take a).flatten++i[a].nd.iv):=gF (by rw[et aL,eZ, <-ae];simp);have ac:Hid (∀ys,ys <+: i[a].nd.iv->ps++(C.take a).flatten++ys <+: ps++C.flatten):=gF (fun ys ay=>by rw[ar,ee,eN,eN,ae];exact ay.trans (e2 _ _))
     unfold AT.ptr at X v;obtain⟨bi,aJ⟩:=nM (i[a].b);obtain⟨bf,aF⟩:=nM (i[a].nd.iv);rw[aJ] at X v;rw[aF] at X E ac;have a0:=gF X;have ak:=gF f;rw[al.o] at a';clear aJ aF X f aM ar ae ax M e j U af I H;gi_wp2_with (refine⟨trivial,?_⟩;gi_at_call 102;refine(eo.2 a0.o).mono ?_);rintro e a1 (⟨rfl,ao,au⟩|⟨rfl,ys,ay,ap⟩);.
      clear v am aV;gi_wp2;go_roundw;case rel=>exact⟨a+1,oM,oQ,by rw[E.o, <-ee ps, <-ee pre];exact ao,ak.o.trans au⟩
      case measure=>simp[intOf];omega
     clear v am aV;gi_wp2;go_ret;exact .inr ⟨rfl,_,ac.o ys ay,by rw[<-ee pre];exact ap⟩
    obtain rfl:a=q:=oM
    have a3:C.take a=C:=eu (by rw[<-aj.o,eG,al.o];exact dK _);rw[a3] at af;gi_wp2;go_ret;exact .inl ⟨rfl,af,f⟩
end
def jP:Option AT->dQ
 | none=> hG dI
 | some t=>t.ptr
def nK (gM:Nat) (W:dL) (o:Option AT):Prop:= ∀t,o=dN t->h9 gM W t/\t.nd.Wf/\t.fp.Nodup
def pM:Option AT->List Nat
 | none=>[]
 | some t=>t.fp
def pq (o:Option AT):Option Nd:=o.map AT.nd
theorem Eb (n:Nat) (aj:2<=n) (gM h wc:Nat) (T:Nat->Prop) (o:Option AT) (w:dL) (C:nK gM w o) (v: ∀x∈pM o,T x) (_hTr:T h) (y7:T wc)
  (ad:Bx w h #[jP o] 88) (ae:Bx w wc (wV wc) 156) (c:(jz (pq o)).length<=1000000):
  SeqStopsK eF n dV 103 #[hG (dN ⟨h,0,dI⟩), hG (dN ⟨wc,0,dI⟩)] (fun x:Kv=>#[tW x]) (iL T) (fun ys=>ys=jz (pq o)) (fun pre=>pre <+: jz (pq o)) (jz (pq o)).length w:=by
 intro l J Jx W g hJ X hY q;have E:Fence.wide.round=none:=rfl;have ai:1<=n:=oM
 have af:=ad.gD g;have H:=ae.gD g;obtain⟨f,ak⟩:=af.c2;obtain⟨O,al⟩:=H.c2;unfold wV at O;have I:Hid (∀s W W',J s W->W.grownBy W' dI->J s W'):=gF fun s A B ab Z=>hJ s A B dI ab Z oC;have j:Hid (∀m pre x W1,J pre W1->pre.length<(jz (pq o)).length->YieldAt eF m dV l #[tW x] W1 fun e W'=>(e= ht (hF en)/\J (pre++[x]) W'/\iL T W1 W')\/(e= ht (hF dS)/\Jx (pre++[x]) W')):=
  gF (fun m pre x W1 aa c=>JD (hY pre x W1 aa c))
 have i:=gF q;clear hY hJ X q;cases o with
 | none=>unfold jP at f;refine eJ eR rfl trivial ?_ E;simp only[ntmps103,ec,j1,dY,eE,eD,eh,eg,ev,ej,ed,ei];gi_wp2;go_end0;exact⟨⟨_,rfl⟩, .inl i.o⟩
 | some t=>
  obtain⟨z,G,-⟩:=C t rfl;have R:jP (dN t)= hG (dN ⟨t.b,0,dI⟩):=rfl;rw[R] at f;have a:=JE l gM wc (jz (pq (dN t))).length T J Jx I.o j.o y7 t W [] (z.ij g) G v H i.o (by simp[jz,pq]) c;simp only[AT.ptr,ed] at a;have D:jz (pq (dN t))=t.nd.iv:=rfl;rw[D];obtain⟨ag,u⟩:=nM t.nd.iv;rw[u] at a |-;obtain⟨b,y⟩:=nM t.b;rw[y] at a f;have M:=gF a;clear u y a c D z G C v j;refine eJ eR rfl trivial ?_ E;simp only[ntmps103,ec,j1,dY,eE,eD,eh,eg,ev,ej,ed,ei];gi_wp2_with (refine⟨trivial,?_⟩;gi_at_call 102;refine(eo.2 M.o).mono ?_);rintro e ah (⟨rfl,U,-⟩|⟨rfl,ys,ac,Y⟩);. gi_wp2;go_end0;exact⟨⟨_,rfl⟩, .inl ⟨_,rfl,U⟩⟩
  gi_wp2;go_end0;exact⟨⟨_,rfl⟩, .inr ⟨_,ac,Y⟩⟩
theorem Ec (n:Nat) (p:Option Addr) (w:dL):
  CallsIn eF n dV 61 #[hG p] w fun e w'=>e= ht (.func (.func 103) #[] #[hG (dN ⟨w.heap.size,0,dI⟩), hG (dN ⟨w.heap.size+1,0,dI⟩)])/\
   Bx w' w.heap.size #[hG p] 88/\Bx w' (w.heap.size+1) (wV (w.heap.size+1)) 156/\dT w.heap.size w w'/\w'.heap.size=w.heap.size+2:=by
 have a:Fence.wide.round=none:=rfl;refine eJ func61 rfl trivial ?_ a;simp only[ntmps61,ec,j1,dY,eE,eD,eh,eg,ev,ej,ed,ei];gi_wp2;go_ret;exact⟨rfl,(Bx.new w #[hG p] 88).alloc _,Bx.ir (w.alloc (hP #[hG p] 88)) _ 156 (w.heap.size+1) oC,(Below.one w _).alloc oC _,oC⟩
variable {gI gJ:Int}{k b B n N pc cc V:Nat}{l:List Int}{w w' W W' A:dL}{cs:Array dQ}{v0 v1 v2 v3 v4 v5 v6 v7 u0 u1 u2 u3 u4 u5 u6 u7 u8 v8 p p' b':dQ}{t:e4}{x:Ix}{o po co:Option Addr}{d:ik}{L:List Nat}
inductive kM:Nd->Prop
 | lf (ps:List Kv) (pg:Int) (h1:1<=ps.length) (h3:ps.length<=3) (hk: ∀p∈ps,k6 p):kM (.mk ps [] pg)
 | mD (gC:List Nd) (pg:Int) (h2:2<=gC.length) (h8:gC.length<=8) (hk: ∀k∈gC,kM k):kM (.mk [] gC pg)
theorem kM.wf: ∀{n:Nd},kM n->n.Wf:=by
 intro n
 induction n using Nd.ind with
 | h ps q u c=>
  intro h;cases h with
  | lf _ _ f i a=>exact .mk _ _ _ (.inl rfl) (fun k a=>by cases a)
  | mD _ _ g j a=>exact .mk _ _ _ (.inr rfl) (fun k h=>c k h (a k h))
theorem kM.first: ∀{n:Nd},kM n->n.first=true:=by
 intro n
 induction n using Nd.ind with
 | h ps i u g=>
  intro h;cases h with
  | lf _ _ c j a=>exact D4 c
  | mD _ _ f q a=>
   cases i with
   | nil=>simp at f
   | cons k r=>rw[Nd.first];exact g k oC (a k oC)
theorem kM.ie: ∀{n:Nd},kM n->n.ie.size<=48:=by
 intro n
 induction n using Nd.ind with
 | h ps g u f=>
  intro h;cases h with
  | lf _ _ i j a=>exact D5 a
  | mD _ _ c q a=>
   cases g with
   | nil=>simp at c
   | cons k r=>rw[Nd.ie];exact f k oC (a k oC)
theorem A7 {d:ik} {gI gJ:Int}: ∀(f:Nat) {gN:Bool} {page:Int} {used u:List Int} {n:Nd} {k:Nat},iR d gI gJ f gN page used=dN (n,k,u)->kM n
 | 0,_,_,_,_,_,_,h=>by cases h
 | f+1,gN,page,used,u,n,k,h=>by
  rw[iR] at h;split at h;cases h;split at h;split at h;cases h;rename_i g;split at h;cases h;rename_i ps q;split at h;simp only[ek,ew] at h;obtain⟨rfl,-,-⟩:=h;obtain⟨c,a⟩:=tE q;exact .lf _ _ oM oM a;cases h;split at h;cases h;rename_i g;split at h;cases h;rename_i y C u1 j;split at h;simp only[ek,ew] at h;obtain⟨rfl,-,-⟩:=h;obtain⟨c,a⟩:=vS j;have z:y.length=((gQ d page).getD 1 0).toNat:=by rw[c];simp[mg]
  exact .mD _ _ oM oM fun x v=>by obtain⟨p,u2,D,u3,i⟩:=a x v;exact A7 f i
  cases h
theorem Ed {g:Int->List Int->Option (Nd×Nat×List Int)} (f: ∀p u n k a,g p u=dN (n,k,a)->n.iv.length+3 * u.length<=3 * a.length):
  ∀{l:List Int} {o:Option Nat} {u a:List Int} {c:List Nd} {k:Nat},jn g l o u=dN (c,k,a)->(c.map Nd.iv).flatten.length+3 * u.length<=3 * a.length
 | [],_,_,_,_,_,h=>by simp only[jn,ek,ew] at h;obtain⟨rfl,-,rfl⟩:=h;simp
 | p::r,o,u,a,c,k,h=>by rw[jn] at h;split at h;cases h;rename_i n y u1 j;split at h;cases h;obtain⟨⟨m,z,u2⟩,i,e⟩:=Option.map_eq_some_iff.1 h;simp only[ew] at e;obtain⟨rfl,rfl,rfl⟩:=e;have q:=f _ _ _ _ _ j;have v:=Ed f i;simp only[List.map_cons,e6,iI];omega
theorem A8 {d:ik} {gI gJ:Int}: ∀(f:Nat) {gN:Bool} {page:Int} {used u:List Int} {n:Nd} {k:Nat},iR d gI gJ f gN page used=dN (n,k,u)->n.iv.length+3 * used.length<=3 * u.length
 | 0,_,_,_,_,_,_,h=>by cases h
 | f+1,gN,page,used,u,n,k,h=>by
  rw[iR] at h;split at h;cases h;split at h;split at h;cases h;rename_i i;split at h;cases h;rename_i ps v;split at h;simp only[ek,ew] at h;obtain⟨rfl,-,rfl⟩:=h;obtain⟨a,g⟩:=tE v;rw[Nd.iJ rfl];simp only[Nd.ps,iI,j1,dY];omega;cases h;split at h;cases h;rename_i i;split at h;cases h;rename_i y z u1 c;split at h;simp only[ek,ew] at h;obtain⟨rfl,-,rfl⟩:=h;obtain⟨a,g⟩:=vS c;have q:y.length=((gQ d page).getD 1 0).toNat:=by rw[a];simp[mg]
  have:=Ed (fun p u n k C j=>A8 f j) c;rw[Nd.iu (by intro e;simp only[Nd.gC] at e;rw[e,dY] at q;omega)];simp only[Nd.gC];simp only[iI,j1,dY] at this;omega;cases h
section
variable (B0 lb mb:Nat) (d:ik) (po co:Option Addr) (pc cc:Nat) (gI gJ:Int)
theorem Ee (a:iW d=0) (c:jE d gI gJ=en): ∀f,f<=1000000->qK B0 lb mb d po co pc cc gI gJ f
 | 0,_=>JB B0 lb mb d po co pc cc gI gJ
 | f+1,h=>JC B0 lb mb d po co pc cc gI gJ f (Ee a c f oM) a c oM
end
theorem A9:(Tryz.prog.info? 3).map (fun i=>(i.zero,i.size,i.bytes))=dN (dN (gE ha 0),1,8):=oP
def jI (l:List Int):List dQ:=l.map (.int .i64)
theorem Ef (gI gJ:Int):(pA gI gJ).length=(gJ - gI - 2).toNat:=by simp[pA]
theorem JF (h:k<(pA gI gJ).length):(pA gI gJ)[k]=gI+2+(k:Int):=by simp[pA]
def kr (gI gJ:Int) (l:List Int) (k:Nat):List Int:=((pA gI gJ).take k).filter fun p=> !l.contains p
theorem Eg (h:k<(gJ - gI - 2).toNat):kr gI gJ l (k+1)=kr gI gJ l k++(if (gI+2+(k:Int))∈l then [] else [gI+2+(k:Int)]):=by
 have a:k<(pA gI gJ).length:=by rw[Ef];exact h
 unfold kr;rw[et a,List.filter_append,JF a];congr 1
 by_cases c:(gI+2+(k:Int))∈l<;>simp[c]
theorem Eh (gI gJ:Int) (l:List Int):kr gI gJ l (gJ - gI - 2).toNat=mv gI gJ l:=by
 unfold kr mv;rw[eu (by rw[Ef];exact dK _)]
theorem Ei (gI gJ:Int) (l:List Int) (k:Nat):(kr gI gJ l k).length<=k:=by
 unfold kr;refine jU (List.length_filter_le _ _) ?_;rw[List.length_take];omega
theorem Ba (gI gJ:Int) (mb n:Nat) (l:List Int) (w:dL) (ap:kx w mb n l) (ay:0<=gI) (aC:gJ<=1000000) (aA:gI+2<=gJ):
  eI dV 77 #[gE ha gI, gE ha gJ, .map (dN mb)] w fun e w'=> ∃o c,e= ht (hA o (mv gI gJ l).length c)/\
   w'.ownsRow w.heap.size 3 1 (hA o (mv gI gJ l).length c) (mv gI gJ l).length (jI (mv gI gJ l))/\dT w.heap.size w w':=by
 obtain⟨av,U,ae,af,ag⟩:=info_parts A9;have q:=gF (gK U (gK ae (gK af ag)));clear U ae af ag;obtain⟨M,I⟩: ∃M:Nat,gJ=gI+2+M:=⟨(gJ - gI - 2).toNat,oM⟩;have O:(gJ - gI - 2).toNat=M:=oM
 have az:M<=1000000:=oM
 have D:=gF O;have ak:=gF I;clear I O;go_enter func77,ntmps77;go_wp2
 go_loopw [7,8] (fun ax C wr=> ∃(k:Nat) (o:Option Addr) (c:Nat),k<=M/\C= gE ha (gI+2+k)/\ax= hA o (kr gI gJ l k).length c/\wr.ownsRow w.heap.size 3 1 (hA o (kr gI gJ l k).length c) (kr gI gJ l k).length (jI (kr gI gJ l k))/\dT w.heap.size w wr) (fun _ C _=>(gJ - intOf C).toNat)
 case atStart=>exact⟨0,dI,0,ep _,oC,rfl,World.ownsRow_nil _ _ _ _,dU _ _⟩
 case round=>
  obtain⟨k,o,c,aB,rfl,rfl,a,g⟩:=hrel;have au:=g.size;have Z:=ak.o
  by_cases ar:k<M
  .
   have Y:gI+2+(k:Int)<gJ:=oM
   have v:=D3 (ap.below g) (gI+2+(k:Int)) ⟨oM,oM⟩;have f:=gF (Eg (gI:=gI) (gJ:=gJ) (l:=l) (k:=k) (by rw[D.o];exact ar));have X:=Ei gI gJ l k;obtain⟨F,H⟩:=nM (kr gI gJ l k);rw[H] at a f X |-;obtain⟨p,z⟩:=nM (gI+2+(k:Int));have aa:wrap64 (p+1)=p+1:=IntWalk.wrap64_in _ oM;rw[z] at v f Y |-;have E:=gF z;obtain⟨m,y⟩:=nM F.length;rw[y] at a X |-;have u:=gF y;clear H z y Z;cases h:decide (p∈l) with
   | true=>
    have j:=of_decide_eq_true h;rw[h] at v;have i:Hid (kr gI gJ l (k+1)=F):=gF (by rw[f.o,if_pos j,List.append_nil]);clear h j f;go_wp2;go_roundw;case rel=>exact⟨k+1,o,c,oM,by have:=E.o;rw[aa,show gI+2+((k+1:Nat):Int)=p+1 by omega],by rw[i.o,u.o],by rw[i.o,u.o];exact a,g⟩
    case measure=>simp[intOf];omega
   | false=>
    have j:=of_decide_eq_false h;rw[h] at v;have i:Hid (kr gI gJ l (k+1)=F++[p]):=gF (by rw[f.o,if_neg j]);clear h j f;have ab:=a.alloc (.cells #[.int .i64 p] 3);have ai:Hid (∀ah∈[Value.int .i64 p],ah.oneCell'=en):=gF (by intro ah ad;simp at ad;subst ad;rfl);have al:Hid (gO (· =wr.heap.size) (wr.alloc (.cells #[.int .i64 p] 3)) (dN ⟨wr.heap.size,0,dI⟩) [.int .i64 p]):=gF (gO.bx (Bx.new wr #[.int .i64 p] 3));have aj:=gF g;clear g;go_wp2_with (at_builtin;refine o8 rfl _ _ 31 rfl w.heap.size 3 av _ 1 8 underlying31 q.o.1 q.o.2.1 q.o.2.2.1 q.o.2.2.2 rfl oF (.slice o m c) m (jI F) rfl ab (dN ⟨wr.heap.size,0,dI⟩) 1 1 [.int .i64 p] rfl (by intro e;cases e) rfl al.o ai.o (by unfold e3;omega) oM oN ?_;intro v3 aD ac aq;obtain⟨aw,an,rfl⟩:=pD ac);go_roundw;case rel=>
     have G:(F++[p]).length=m+1:=by rw[iI,u.o];rfl
     have ao:jI (F++[p])=jI F++[gE ha p]:=by simp[jI]
     refine⟨k+1,aw,an,oM,by have:=E.o;rw[aa,show gI+2+((k+1:Nat):Int)=p+1 by omega],by rw[i.o,G],by rw[i.o,G,ao];exact ac,?_⟩;exact Below.jq (aj.o.alloc au _) ab aq oN
    case measure=>simp[intOf];omega
  obtain rfl:k=M:=oM
  have Y: ¬gI+2+(k:Int)<gJ:=oM
  have R:kr gI gJ l k=mv gI gJ l:=by rw[<-Eh,D.o]
  rw[R] at a |-;have am:=gF a;clear a Z R;go_wp2;go_ret;exact⟨o,c,rfl,am.o,g⟩
def ng (d:ik) (gI gJ:Int) (r:Nat):Option (Option Nd×List Int):=
 if r=0 then dN (dI,[])
 else match iR d gI gJ (kT gI gJ) en r [] with
  | none=>dI
  | some (n,_,u)=>if kX n.iv then dN (dN n,u) else dI
def j7 (d:ik) (gI gJ:Int):Option (Ix×Option Nd):=
 if (jY d gI gJ).1=0 then dI
 else match ng d gI gJ (jY d gI gJ).2 with
  | none=>dI
  | some (t,u)=>dN (⟨d,gI,gJ,(jY d gI gJ).1,(jY d gI gJ).2,mv gI gJ u⟩,t)
abbrev dC (d:ik) (po co:Option Addr) (pc cc:Nat):Array dQ:=#[gE ha d.size, hA po d.gG.length pc, hA co d.gH.length cc, gE ha d.left]
def lj (w:dL) (b:Nat) (v0 v1 v2 v3 v4 v5 v6 v7:dQ):dL:=
 (((((((w.setCell ⟨b,0,dI⟩ v0).setCell ⟨b,1,dI⟩ v1).setCell ⟨b,2,dI⟩ v2).setCell ⟨b,3,dI⟩ v3).setCell ⟨b,4,dI⟩ v4).setCell ⟨b,5,dI⟩ v5).setCell ⟨b,6,dI⟩ v6).setCell ⟨b,7,dI⟩ v7
theorem Bx.xE {b':Nat} (h:Bx w b' cs t) (c:b'≠b):Bx (lj w b v0 v1 v2 v3 v4 v5 v6 v7) b' cs t:=
 (((((((h.jc (a:=⟨b,0,dI⟩) c v0).jc (a:=⟨b,1,dI⟩) c v1).jc (a:=⟨b,2,dI⟩) c v2).jc (a:=⟨b,3,dI⟩) c v3).jc (a:=⟨b,4,dI⟩) c v4).jc (a:=⟨b,5,dI⟩) c v5).jc (a:=⟨b,6,dI⟩) c v6).jc (a:=⟨b,7,dI⟩) c v7
theorem JG (h:dT B w w') (a:B<=b):dT B w (lj w' b v0 v1 v2 v3 v4 v5 v6 v7):=
 iT (b:=b) (iT (b:=b) (iT (b:=b) (iT (b:=b) (iT (b:=b) (iT (b:=b) (iT (b:=b) (iT (b:=b) h a) a) a) a) a) a) a) a
abbrev ib (d:ik) (po co:Option Addr) (pc cc:Nat) (gI gJ gZ gN:Int) (fo:Option Addr) (fn fc:Nat):Array dQ:=#[gE ha d.size, hA po d.gG.length pc, hA co d.gH.length cc, gE ha d.left, gE ha gI, gE ha gJ, gE ha gZ, gE ha gN, hA fo fn fc]
abbrev jW:Array dQ:=#[gE ha 0, hA dI 0 0, hA dI 0 0, gE ha 0, gE ha 0, gE ha 0, gE ha 0, gE ha 0, hA dI 0 0]
def rK (w:dL) (v:dQ) (x:Ix):Prop:=
 ∃po pc co cc fo fc,v= hI (ib x.gL po co pc cc x.gI x.gJ x.gZ x.gN fo x.free.length fc)/\iF w (hI (dC x.gL po co pc cc)) x.gL/\jk fo x.free.length fc/\lp (· <w.heap.size) w fo x.free
theorem rK.below {v:dQ} (h:rK w v x) (a:dT w.heap.size w w'):rK w' v x:=by
 obtain⟨po,pc,co,cc,g,f,rfl,i,j,q⟩:=h;exact⟨po,pc,co,cc,g,f,rfl,i.below a,j,fun z u=>by obtain⟨b,C,e,c,y⟩:=(lp.below q a) z u;exact⟨b,C,e,c,iU y a.size⟩⟩
def jQ (w:dL) (o:Option Addr) (l:List Int):Prop:=
 ∀i (h:i<l.length),∃b off cs fz,o=dN ⟨b,off,dI⟩/\w.heap[b]?=dN (hP cs 3 fz)/\w.cell? ⟨b,off+i,dI⟩=dN (gE ha l[i])
theorem jQ.at (h:jQ w o l):lp (· <w.heap.size) w o l:=fun g f=>by
 obtain⟨b,i,cs,j,e,c,a⟩:=h g f;exact⟨b,i,e,a,(dO.1 c).1⟩
theorem jQ.same (h:jQ w o l) (i: ∀b cs a,w.heap[b]?=dN (hP cs 3 a)->o.map Addr.block=dN b->w'.heap[b]?=w.heap[b]?):jQ w' o l:=fun j g=>by
 obtain⟨b,q,cs,a,rfl,c,f⟩:=h j g;have e:=i b cs a c rfl;exact⟨b,q,cs,a,rfl,e.trans c,by rw[<-f];simp[World.cell?,e]⟩
theorem jQ.below (h:jQ w o l) (a:dT w.heap.size w w'):jQ w' o l:=
 h.same fun b _ _ c _=>a.block b (dO.1 c).1
theorem jQ.own {gM:Nat} {c:Nat} (h:w.ownsRow gM 3 1 (hA o n c) n (l.map (.int .i64))):jQ w o l:=by
 intro y u;obtain⟨z,c',g,H,v,G⟩:=nC h;obtain⟨rfl,rfl⟩:o=z/\c=c':=by simpa using g
 obtain⟨b,I,e,q,E⟩:=v y (by simpa using u);rcases h.2 with⟨a,i⟩|⟨D,C,f,a,i,j,_⟩;rw[e] at a;cases a;rw[e] at a;simp at a;obtain⟨⟨rfl,rfl⟩,rfl⟩:=a;exact⟨b,0,f,(0,0),e,j,by rw[q];simp⟩
def kG (w:dL) (v:dQ) (x:Ix):Prop:=
 ∃po pc co cc fo fc,v= hI (ib x.gL po co pc cc x.gI x.gJ x.gZ x.gN fo x.free.length fc)/\iF w (hI (dC x.gL po co pc cc)) x.gL/\jk fo x.free.length fc/\jQ w fo x.free
theorem kG.v {w:dL} {v:dQ} {x:Ix} (h:kG w v x):rK w v x:=by
 obtain⟨po,pc,co,cc,c,a,rfl,f,g,i⟩:=h;exact⟨po,pc,co,cc,c,a,rfl,f,g,i.at⟩
theorem kG.below {v:dQ} (h:kG w v x) (a:dT w.heap.size w w'):kG w' v x:=by
 obtain⟨po,pc,co,cc,f,c,rfl,g,i,j⟩:=h;exact⟨po,pc,co,cc,f,c,rfl,g.below a,i,j.below a⟩
theorem kG.zero (w:dL):kG w (hI jW) iY:=
 ⟨dI,0,dI,0,dI,0,rfl,rE w, .inl ⟨rfl,rfl,rfl⟩,by intro c a;exact absurd a (by simp[iY])⟩
structure tX (w:dL) (N:Nat) (d:ik) (po co:Option Addr) (pc cc:Nat) (W:dL):Prop where
 nJ:Bx W N (dC d po co pc cc) 25
 res:Bx W (N+1) jW 33
 rp:Bx W (N+1+1) #[hG dI] 88
 rb:Bx W (N+1+1+1) #[hF dS] 4
 below:dT w.heap.size w W
 val:ja (· <w.heap.size) W (hI (dC d po co pc cc)) d
 gM:w.heap.size=N
 size:N+3<W.heap.size
theorem tX.next (h:tX w N d po co pc cc W) (a:dT W.heap.size W W'):tX w N d po co pc cc W':=
 ⟨h.nJ.gD a,h.res.gD a,h.rp.gD a,h.rb.gD a,iq h.below a,h.val.same fun b c=>a.block b (iU c h.below.size),h.gM,iU h.size a.size⟩
theorem tX.grown {mb:Nat} (h:tX w N d po co pc cc W) (a:W.grownBy W' (dN mb)) (g:N+3<mb):tX w N d po co pc cc W':=by
 have f:=h.gM;refine⟨h.nJ.grown a oN,h.res.grown a oN,h.rp.grown a oN,h.rb.grown a oN,h.below.grown a h.below.size (fun k e=>by cases e;omega),h.val.same fun b c=>a.block b (iU c h.below.size) oN,h.gM,iU h.size a.size⟩
theorem tX.xF (h:tX w N d po co pc cc W):iF W (hI (dC d po co pc cc)) d:=h.val.mono fun _ a=>iU a h.below.size
def jr (w:dL) (b:Nat) (v0 v1 v2 v3 v4 v5 v6 v7 v8:dQ):dL:=(lj w b v0 v1 v2 v3 v4 v5 v6 v7).setCell ⟨b,8,dI⟩ v8
theorem Bx.kh (h:Bx w b #[u0,u1,u2,u3,u4,u5,u6,u7,u8] t):Bx (jr w b v0 v1 v2 v3 v4 v5 v6 v7 v8) b #[v0,v1,v2,v3,v4,v5,v6,v7,v8] t:=by
 have:=((((((((h.set 0 v0).set 1 v1).set 2 v2).set 3 v3).set 4 v4).set 5 v5).set 6 v6).set 7 v7).set 8 v8;simpa[Go.Proofs.YtlefmmhlpgmbjaaGreat.jr,Go.Proofs.YtlefmmhlpgmbjaaGreat.lj] using this
theorem Bx.uN {b':Nat} (h:Bx w b' cs t) (c:b'≠b):Bx (jr w b v0 v1 v2 v3 v4 v5 v6 v7 v8) b' cs t:=
 (h.xE c).jc (a:=⟨b,8,dI⟩) c v8
theorem mV (h:dT B w w') (a:B<=b):dT B w (jr w' b v0 v1 v2 v3 v4 v5 v6 v7 v8):=
 iT (b:=b) (JG h a) a
theorem Ej {b:dQ} (g:Bx W (N+1) #[u0,u1,u2,u3,u4,u5,u6,u7,u8] 33) (f:Bx W (N+1+1) #[p] 88) (c:Bx W (N+1+1+1) #[b] 4) (v0 v1 v2 v3 v4 v5 v6 v7 v8 p' b':dQ):
  Bx (((jr W (N+1) v0 v1 v2 v3 v4 v5 v6 v7 v8).setCell ⟨N+1+1,0,dI⟩ p').setCell ⟨N+1+1+1,0,dI⟩ b') (N+1) #[v0,v1,v2,v3,v4,v5,v6,v7,v8] 33/\
  Bx (((jr W (N+1) v0 v1 v2 v3 v4 v5 v6 v7 v8).setCell ⟨N+1+1,0,dI⟩ p').setCell ⟨N+1+1+1,0,dI⟩ b') (N+1+1) #[p'] 88/\
  Bx (((jr W (N+1) v0 v1 v2 v3 v4 v5 v6 v7 v8).setCell ⟨N+1+1,0,dI⟩ p').setCell ⟨N+1+1+1,0,dI⟩ b') (N+1+1+1) #[b'] 4:=by
 refine⟨(g.kh.jc (a:=⟨N+1+1,0,dI⟩) oC _).jc (a:=⟨N+1+1+1,0,dI⟩) oC _,?_,?_⟩;have:=((f.uN (b:=N+1) (v0:=v0) (v1:=v1) (v2:=v2) (v3:=v3) (v4:=v4) (v5:=v5) (v6:=v6) (v7:=v7) (v8:=v8) oC).set 0 p').jc (a:=⟨N+1+1+1,0,dI⟩) oC b';simpa using this;have:=((c.uN (b:=N+1) (v0:=v0) (v1:=v1) (v2:=v2) (v3:=v3) (v4:=v4) (v5:=v5) (v6:=v6) (v7:=v7) (v8:=v8) oM).jc (a:=⟨N+1+1,0,dI⟩) oC p').set 0 b';simpa using this
theorem JH (h:dT B w W) (a:B<=N):dT B w (((jr W (N+1) v0 v1 v2 v3 v4 v5 v6 v7 v8).setCell ⟨N+1+1,0,dI⟩ p').setCell ⟨N+1+1+1,0,dI⟩ b'):=
 iT (b:=N+1+1+1) (iT (b:=N+1+1) (mV h oM) oM) oM
theorem Bx.pE (h:Bx w b #[u0,u1,u2,u3,u4,u5,u6,u7,u8] t):Bx (jr w b (gE ha 0) (hA dI 0 0) (hA dI 0 0) (gE ha 0) (gE ha 0) (gE ha 0) (gE ha 0) (gE ha 0) (hA dI 0 0)) b #[gE ha 0, hA dI 0 0, hA dI 0 0, gE ha 0, gE ha 0, gE ha 0, gE ha 0, gE ha 0, hA dI 0 0] t:=h.kh
theorem vV (h:dT B w w') (a:B<=b):dT B w (jr w' b (gE ha 0) (hA dI 0 0) (hA dI 0 0) (gE ha 0) (gE ha 0) (gE ha 0) (gE ha 0) (gE ha 0) (hA dI 0 0)):=mV h a
theorem Bb {b:dQ} (f:Bx W (N+1) #[u0,u1,u2,u3,u4,u5,u6,u7,u8] 33) (c:Bx W (N+1+1) #[p] 88) (a:Bx W (N+1+1+1) #[b] 4) (p' b':dQ):
  Bx (((jr W (N+1) (gE ha 0) (hA dI 0 0) (hA dI 0 0) (gE ha 0) (gE ha 0) (gE ha 0) (gE ha 0) (gE ha 0) (hA dI 0 0)).setCell ⟨N+1+1,0,dI⟩ p').setCell ⟨N+1+1+1,0,dI⟩ b') (N+1) #[gE ha 0, hA dI 0 0, hA dI 0 0, gE ha 0, gE ha 0, gE ha 0, gE ha 0, gE ha 0, hA dI 0 0] 33/\
  Bx (((jr W (N+1) (gE ha 0) (hA dI 0 0) (hA dI 0 0) (gE ha 0) (gE ha 0) (gE ha 0) (gE ha 0) (gE ha 0) (hA dI 0 0)).setCell ⟨N+1+1,0,dI⟩ p').setCell ⟨N+1+1+1,0,dI⟩ b') (N+1+1) #[p'] 88/\
  Bx (((jr W (N+1) (gE ha 0) (hA dI 0 0) (hA dI 0 0) (gE ha 0) (gE ha 0) (gE ha 0) (gE ha 0) (gE ha 0) (hA dI 0 0)).setCell ⟨N+1+1,0,dI⟩ p').setCell ⟨N+1+1+1,0,dI⟩ b') (N+1+1+1) #[b'] 4:=Ej f c a _ _ _ _ _ _ _ _ _ p' b'
theorem Ek (h:dT B w W) (a:B<=N):dT B w (((jr W (N+1) (gE ha 0) (hA dI 0 0) (hA dI 0 0) (gE ha 0) (gE ha 0) (gE ha 0) (gE ha 0) (gE ha 0) (hA dI 0 0)).setCell ⟨N+1+1,0,dI⟩ p').setCell ⟨N+1+1+1,0,dI⟩ b'):=JH h a
def gS (L:List Nat) (W W':dL):Prop:=W'.os=W.os/\W'.tape=W.tape/\W'.output=W.output/\W.heap.size<=W'.heap.size/\ ∀b,b<W.heap.size->b∉L->W'.heap[b]?=W.heap[b]?
theorem gS.refl (L:List Nat) (W:dL):gS L W W:=⟨rfl,rfl,rfl,dK _,fun _ _ _=>rfl⟩
theorem gS.trans {B C:dL} (h:gS L A B) (k:gS L B C):gS L A C:=
 ⟨k.1.trans h.1,k.2.1.trans h.2.1,k.2.2.1.trans h.2.2.1,jU h.2.2.2.1 k.2.2.2.1,fun b a c=>(k.2.2.2.2 b (iU a h.2.2.2.1) c).trans (h.2.2.2.2 b a c)⟩
theorem gS.grown {B:dL} {f:Option Nat} (h:gS L W A) (a:A.grownBy B f) (i: ∀r,f=dN r->W.heap.size<=r):gS L W B:=
 ⟨a.os.trans h.1,a.tape.trans h.2.1,a.output.trans h.2.2.1,jU h.2.2.2.1 a.size,fun b c g=>(a.block b (iU c h.2.2.2.1) fun e=>by have:=i b e.symm;omega).trans (h.2.2.2.2 b c g)⟩
theorem gS.set {v:dQ} (h:gS L W A) (f:b∈L):gS L W (A.setCell ⟨b,k,dI⟩ v):=by
 refine⟨?_,?_,?_,?_,fun a g c=>(dW A ⟨b,k,dI⟩ v a fun e=>c (by rw[show a=b from e];exact f)).trans (h.2.2.2.2 a g c)⟩;exact(iT (b:=b) (k:=k) (v:=v) (dU 0 A) (ep _)).os.trans h.1;exact(iT (b:=b) (k:=k) (v:=v) (dU 0 A) (ep _)).tape.trans h.2.1;exact(iT (b:=b) (k:=k) (v:=v) (dU 0 A) (ep _)).output.trans h.2.2.1;simpa using h.2.2.2.1
theorem gS.below (h:gS L W A) (a:dT B w W) (g:B<=W.heap.size) (c: ∀b∈L,B<=b):dT B w A:=
 a.trans ⟨h.1,h.2.1,h.2.2.1,h.2.2.2.1,fun b a=>h.2.2.2.2 b (iU a g) fun f=>by have:=c b f;omega⟩
theorem gS.bx (h:gS L W A) (a:Bx W b cs t) (c:b∉L):Bx A b cs t:=(h.2.2.2.2 b a.lt c).trans a
theorem gS.rJ (h:gS L W A) (T:Nat->Prop) (c: ∀b,T b->b∉L):iL T W A:=fun k _ f a=>(h.2.2.2.2 k (dO.1 a).1 (c k f)).trans a
theorem gS.own {B:dL} {l:Nat} {o:Obj} (h:gS L W A) (c:W.heap.size<=l) (a:B=A.putObj l o):gS L W B:=by
 subst a;exact h.grown (ef A l o) (fun r e=>by cases e;exact c)
theorem gS.res (h:gS L W A) (a:N+1∈L) (c:N+1+1∈L) (f:N+1+1+1∈L):gS L W (((jr A (N+1) v0 v1 v2 v3 v4 v5 v6 v7 v8).setCell ⟨N+1+1,0,dI⟩ p').setCell ⟨N+1+1+1,0,dI⟩ b'):=
 ((((((((((h.set (k:=0) a).set (k:=1) a).set (k:=2) a).set (k:=3) a).set (k:=4) a).set (k:=5) a).set (k:=6) a).set (k:=7) a).set (k:=8) a).set (k:=0) c).set (k:=0) f
theorem gS.ic {B:dL} (h:gS L W A) (a:dT A.heap.size A B):gS L W B:=h.grown (gY a (dK _) dI) oC
theorem gS.sub {L':List Nat} (h:gS L W A) (g: ∀b∈L,b∈L'):gS L' W A:=⟨h.1,h.2.1,h.2.2.1,h.2.2.2.1,fun b a f=>h.2.2.2.2 b a fun c=>f (g b c)⟩
theorem El (A:dL) (N:Nat) (v0 v1 v2 v3 v4 v5 v6 v7 v8 p' b':dQ):KeepsOthers A (((jr A (N+1) v0 v1 v2 v3 v4 v5 v6 v7 v8).setCell ⟨N+1+1,0,dI⟩ p').setCell ⟨N+1+1+1,0,dI⟩ b'):=
 (((((((((((dJ A ⟨N+1,0,dI⟩ v0).trans (dJ _ ⟨N+1,1,dI⟩ v1)).trans (dJ _ ⟨N+1,2,dI⟩ v2)).trans (dJ _ ⟨N+1,3,dI⟩ v3)).trans (dJ _ ⟨N+1,4,dI⟩ v4)).trans (dJ _ ⟨N+1,5,dI⟩ v5)).trans (dJ _ ⟨N+1,6,dI⟩ v6)).trans (dJ _ ⟨N+1,7,dI⟩ v7)).trans (dJ _ ⟨N+1,8,dI⟩ v8)).trans (dJ _ ⟨N+1+1,0,dI⟩ p')).trans (dJ _ ⟨N+1+1+1,0,dI⟩ b'))
def mn (l:List Kv):ByteArray:=(l.getLast?.map (·.1)).getD ByteArray.empty
theorem Em (l:List Kv) (x:Kv):mn (l++[x])=x.1:=by simp[mn]
theorem JI (l:List Kv) (x:Kv):kX (l++[x])=(kX l&&(l.isEmpty||iB (mn l) x.1)):=by
 induction l with
 | nil=>rfl
 | cons c l a=>
  cases l with
  | nil=>simp[kX,mn]
  | cons b r=>
   have e:mn (c::b::r)=mn (b::r):=by simp[mn]
   simp only[ei,kX] at a |-;rw[a,e];simp[Bool.and_assoc]
theorem JJ {l m:List Kv} (h:l <+: m) (a:kX l=dS):kX m=false:=by
 obtain⟨r,rfl⟩:=h;cases c:kX (l++r) with
 | false=>rfl
 | true=>have:=((vI _).1 c).sub (List.sublist_append_left l r);rw[<-vI,a] at this;cases this
theorem uO {s:List UInt8} (h:jV s gI gJ k=dN (V,n)):1<=V/\V<=1099511627776/\n<=1099511627776:=by
 obtain⟨a,c,f,g,i,j,q,u⟩:=tS h;omega
theorem JK (a:jV (gQ d gI) gI gJ 0=dI) (c:jV (gQ d (gI+1)) gI gJ 1=dI):j7 d gI gJ=none:=by
 unfold j7 jY;rw[a,c];rfl
theorem y8 (h:jY d gI gJ=(V,n)) (a:1<=V):j7 d gI gJ=(match ng d gI gJ n with
  | none=>dI
  | some (t,u)=>dN (⟨d,gI,gJ,V,n,mv gI gJ u⟩,t)):=by
 unfold j7;rw[h,if_neg (by simp only;omega)]
variable {T:Nat->Prop}
variable {F:Fence} {n:Nat} {P:Program}
theorem iL.vW (W:dL) (o:Obj):iL T W (W.alloc o):=fun k _ _ a=>(e7 W o k (dO.1 a).1).trans a
theorem r7 {A B:dL} {f:Option Nat} {b:Nat} {cs:Array dQ} {t:e4} (a:Bx A b cs t) (h:A.grownBy B f) (i: ∀r,f=dN r-> ∃o:Obj,A.heap[r]?=dN o/\o.isCells=dS):Bx B b cs t:=by
 refine a.grown h fun e=>?_;obtain⟨o,c,g⟩:=i b e.symm;unfold Bx at a;rw[a] at c;cases c;cases g
theorem En {α:Type} {g:Operand} {ps:Array Tmp} {G H:Code} {Q:Exit->Act->dL->Prop} {a:Act} {w:dL}
  (ak:F.round=dI) (Y:1<=n) {gf:Nat} {lb:Array dQ} (z:a.eval g= .func (.func gf) #[] lb) (aa:F.fn gf) (R: ∀args w,(callFunc gf args).run P w= .ok (.enter gf args) w)
  {nZ:α->Array dQ} {S E:List α->Prop} {N:Nat} (am:SeqStopsK F (n - 1) P gf lb nZ (iL T) S E N w)
  (ad: ∀b,T b->b<w.heap.size) (ai: ∀x,(nZ x).size=ps.size)
  (h:List α->dL->Prop) (Ix:Code->List α->dL->Prop) (I:OwnFrom w.heap.size h) (ab: ∀c,OwnFrom w.heap.size (Ix c)) (X:h [] w) (ac: ∀s W,h s W->w.heap.size<=W.heap.size) (C:Nat) (cs:α->Array dQ) (D:e4)
  (ae: ∀(l:Nat) (pre:List α) (x:α) (W:dL) (K:Act->dL->Prop),h pre W->K { tmps:=((ps.zip (nZ x)).foldl (fun t (p,v)=>t.setIfInBounds p v) a.tmps).setIfInBounds C (hG (dN ⟨W.heap.size,0,dI⟩)),defers:=[] } (W.alloc (hP (cs x) D))->
   G.wpIn (F.inRound l) (n - 1 - 1) P (Exit.then K fun _ _ _=>False) { tmps:=(ps.zip (nZ x)).foldl (fun t (p,v)=>t.setIfInBounds p v) a.tmps,defers:=[] } W)
  (af: ∀(l:Nat) (pre:List α) (x:α) (f:Nat) (W:dL),w.heap.size<=f->h pre W->Bx W f (cs x) D->pre.length<N->
   H.wpIn (F.inRound l) (n - 1 - 1) P (ownPostG w.heap.size (iL T) h Ix (pre++[x]) W) { tmps:=((ps.zip (nZ x)).foldl (fun t (p,v)=>t.setIfInBounds p v) a.tmps).setIfInBounds C (hG (dN ⟨f,0,dI⟩)),defers:=[] } W)
  (ag: ∀(i:Nat) (M:List α) (W:dL),w.heap.size<=i->S M->h M W->W.heap[i]?=dN (.deferred (dN []))->Q .normal { a with defers:={ target:= .collected i,args:=#[] }::a.defers } W)
  (an: ∀(i:Nat) (c:Code) (pre:List α) (W:dL),w.heap.size<=i->E pre->Ix c pre W->W.heap[i]?=dN (.deferred (dN []))->c.wpIn F n P Q { a with defers:={ target:= .collected i,args:=#[] }::a.defers } W):
  (Code.rangeFunc g ps G H).wpIn F n P Q a w:=
 wpIn_rangeFunc_ownH ak Y z aa R am iL.trans (fun W l o ao ap _ _ _=>iL.put W ao fun U=>by have:=ad _ U;omega) (dU _ _) ai h Ix I ab X
  (fun x q W=> ∃f,w.heap.size<=f/\Bx W f (cs x) D/\q={ tmps:=((ps.zip (nZ x)).foldl (fun t (p,v)=>t.setIfInBounds p v) a.tmps).setIfInBounds C (hG (dN ⟨f,0,dI⟩)),defers:=[] })
  (fun x q s A B aq al z aj=>by obtain⟨f,u,y,O⟩:=al;exact⟨f,u,r7 y z fun r e=>(aj r e).2,O⟩)
  (fun l pre x W K j hK=>ae l pre x W K j (hK _ _ ((KeepsOthers.alloc _ _).from _) (iL.vW W _) (I.alloc _ j) ⟨W.heap.size,ac _ _ j,Bx.new W _ _,rfl⟩))
  (fun l pre x q W _ _ j Z ah=>by obtain⟨f,u,y,rfl⟩:=Z;exact af l pre x f W u j y ah)
  ag an
attribute [local go_sem] Oper.semAt_some
def wW (o:Option (Ix×Option Nd)) (w:dL) (e:Ending) (w':dL):Prop:=
 dT w.heap.size w w'/\match o with
 | none=>e= ht (hM #[hI jW, hG dI, hF dS])
 | some (x,t)=> ∃v a,e= ht (hM #[v,jP a, hF en])/\kG w' v x/\nK w.heap.size w' a/\pq a=t
theorem uP (o:Option (Nat×Nat)): ∃(b:Bool) (V n:Nat),o=if b then dN (V,n) else none:=by
 cases o with
 | none=>exact⟨dS,0,0,rfl⟩
 | some p=>exact⟨en,p.1,p.2,rfl⟩
theorem Eo (d:ik) (v:dQ) (gI gJ:Int) (k:Nat) (f:iW d=0) (g:jE d gI gJ=en) (i:k<=1) (b:Bool) (V n:Nat) (h:jV (gQ d (gI+k)) gI gJ k=if b then dN (V,n) else dI) (w:dL) (c:iF w v d):
  eI dV 90 #[v, gE ha gI, gE ha gJ, gE ha (gI+k)] w fun e w'=>(∃x y:Int,e= ht (hM #[gE ha x, gE ha y, hF b])/\(b=en->x=V/\y=n))/\dT w.heap.size w w':=by
 cases b with
 | false=>refine(Jl d v gI gJ k w f g i (by simpa using h) c).mono ?_;rintro e w' ⟨⟨x,y,rfl⟩,a⟩;exact⟨⟨x,y,rfl,oC⟩,a⟩
 | true=>refine(Jk d v gI gJ k V n w f g i (by simpa using h) c).mono ?_;rintro e w' ⟨rfl,a⟩;exact⟨⟨V,n,rfl,oC⟩,a⟩
theorem Ep (d:ik) (v:dQ) (gI gJ:Int) (w:dL) (ba:iW d=0) (bb:jE d gI gJ=en) (D:iF w v d):
  eI dV 53 #[v, gE ha gI, gE ha gJ] w (wW (j7 d gI gJ) w):=by
 have cd:=D;obtain⟨po,pc,co,cc,rfl⟩:=D.agg;obtain⟨bz,cT,di,dj,dk⟩:=ra bb;have ao:=pd (nY ba).1;obtain⟨dg,bH⟩:=nM (wW (j7 d gI gJ) w);rw[bH];have a1:=gF bH;obtain⟨ca,aH,aS,bN⟩:=uP (jV (gQ d gI) gI gJ 0);obtain⟨C,aI,aT,bO⟩:=uP (jV (gQ d (gI+1)) gI gJ 1);have bk:=fun W=>Eo d (hI (dC d po co pc cc)) gI gJ 0 ba bb oM ca aH aS (by simpa using bN) W;have bl:=fun W=>Eo d (hI (dC d po co pc cc)) gI gJ 1 ba bb oM C aI aT (by simpa using bO) W;rw[show gI+((0:Nat):Int)=gI by simp] at bk;rw[show gI+((1:Nat):Int)=gI+1 by simp] at bl;have cG:=gF bk;have cH:=gF bl;have ai:=gF bN;have aj:=gF bO;obtain⟨N,aC⟩:=nM w.heap.size;obtain⟨W0,c0⟩:=nM ((((w.alloc (hP (dC d po co pc cc) 25)).alloc (hP jW 33)).alloc (hP #[hG dI] 88)).alloc (hP #[hF dS] 4));have aU:tX w N d po co pc cc W0:=by subst c0 aC;have aG:=(((Below.one w (hP (dC d po co pc cc) 25)).alloc oC (hP jW 33)).alloc oN (hP #[hG dI] 88)).alloc oN (hP #[hF dS] 4);exact⟨(((Bx.new w (dC d po co pc cc) 25).alloc _).alloc _).alloc _,((Bx.ir _ _ _ _ oC).alloc _).alloc _,(Bx.ir _ _ _ _ oC).alloc _,Bx.ir _ _ _ _ oC,aG,cd.same fun b f=>aG.block b f,rfl,oC⟩
 have dv:IntKind.i64.wrap (gI+1)=gI+1:=IntWalk.i64_in _ oM;have dd:=gF bz;have dt:= @run_makeMap dV;clear bN bO bk bl bH D bz;obtain⟨n,du⟩: ∃n,9<=n:=⟨9,dK _⟩;refine(eo (n:=n)).1 ?_;have cr:Fence.wide.round=none:=rfl;have bE:1<=n:=oM
 refine callsIn_of_wp_marks func53 rfl trivial ?_ cr;simp only[ntmps53,ec,j1,dY,eE,eD,eh,eg,ev,ej,ed,ei];have al:=aU.nJ.cell;unfold dC at al;have aM:=aU.nJ.lt;have ci:=aU.xF;gi_wp2_with fail;refine⟨trivial,?_⟩;refine(eo.2 (cG.o _ ci)).mono ?_;rintro e dB ⟨⟨dD,dF,rfl,bD⟩,cl⟩;clear al aM ci;have aV:=aU.next cl;clear aU cl;have al:=aV.nJ.cell;unfold dC at al;have aM:=aV.nJ.lt;have cj:=aV.xF;gi_wp2_with fail;refine⟨trivial,?_⟩;refine(eo.2 (cH.o _ cj)).mono ?_;rintro e aF ⟨⟨dE,dG,rfl,a6⟩,cm⟩;have z:=aV.next cm;clear aV cm al aM cj;cases ca
 case' false=>
  cases C
  case' false=>have aO:Hid (j7 d gI gJ=dI):=gF (JK ai.o aj.o);clear bD a6;have u:=z.res;obtain⟨az,bS,bC⟩:=u.c3;have q:=z.rp;obtain⟨bv,bR,bB⟩:=q.c3;have B0:=z.rb;obtain⟨bu,bQ,bA⟩:=B0.c3;obtain⟨H,I,O⟩:=Bb u q B0 (hG dI) (hF dS);have aG:=gF (Ek (p':= hG dI) (b':= hF dS) z.below (Nat.le_of_eq aC));have ax:=gF (gK H (gK I O));unfold jW at az;clear H I O u q B0;gi_wp2;have ab:=ax.o.1.cell;have ac:=ax.o.2.1.cell;have ad:=ax.o.2.2.cell;simp only[jr,lj] at ab ac ad;refine⟨hM #[hI jW, hG dI, hF dS],by simp[ea,eV,go_sem,ab,ac,ad],?_⟩;rw[<-a1.o];unfold wW;rw[aO.o];exact⟨aG.o,rfl⟩
  case' true=>obtain⟨rfl,rfl⟩:=a6 (by trivial);obtain⟨-,-,aE,bW,bX,bY,-,-⟩:=tS aj.o;have ap:=gF (y8 (d:=d) (gI:=gI) (gJ:=gJ) (V:=aI) (n:=aT) (by unfold jY;rw[ai.o,aj.o];rfl) (uO aj.o).1);obtain⟨V,a9⟩:=nP aI;obtain⟨c,Y⟩:=nP aT
 case' true=>
  obtain⟨rfl,rfl⟩:=bD (by trivial);cases C
  case' false=>obtain⟨-,-,aE,bW,bX,bY,-,-⟩:=tS ai.o;have ap:=gF (y8 (d:=d) (gI:=gI) (gJ:=gJ) (V:=aH) (n:=aS) (by unfold jY;rw[ai.o,aj.o];rfl) (uO ai.o).1);obtain⟨V,a9⟩:=nP aH;obtain⟨c,Y⟩:=nP aS
  case' true=>
   obtain⟨rfl,rfl⟩:=a6 (by trivial)
   by_cases bK:aH<aI
   case' pos=>obtain⟨-,-,aE,bW,bX,bY,-,-⟩:=tS aj.o;have ap:=gF (y8 (d:=d) (gI:=gI) (gJ:=gJ) (V:=aI) (n:=aT) (by unfold jY;rw[ai.o,aj.o];simp only[if_true,mY];rw[if_pos bK]) (uO aj.o).1);obtain⟨V,a9⟩:=nP aI;obtain⟨c,Y⟩:=nP aT
   case' neg=>obtain⟨-,-,aE,bW,bX,bY,-,-⟩:=tS ai.o;have ap:=gF (y8 (d:=d) (gI:=gI) (gJ:=gJ) (V:=aH) (n:=aS) (by unfold jY;rw[ai.o,aj.o];simp only[if_true,mY];rw[if_neg bK]) (uO ai.o).1);obtain⟨V,a9⟩:=nP aH;obtain⟨c,Y⟩:=nP aS
 all_goals
  subst a9 Y;clear bD a6;have al:=z.nJ.cell;unfold dC at al;have aM:=z.nJ.lt;obtain⟨M,aB⟩:=nM aF.heap.size;obtain⟨W3,ar⟩:=nM (((aF.alloc (hP (ib d po co pc cc gI gJ V c dI 0 0) 33)).alloc (.map #[] 0)).alloc (hP (tU d po co pc cc gI gJ (M+1)) 146));have cZ:N+3<M:=by rw[<-aB];exact z.size
  have c8:N<M:=oM
  have cb:dT aF.heap.size aF W3:=by rw[<-ar];exact(((dU _ aF).alloc (dK _) _).alloc oC _).alloc oN _
  have aW:=z.next cb;have cB:Bx W3 M (ib d po co pc cc gI gJ V c dI 0 0) 33:=by rw[<-ar, <-aB];exact((Bx.new aF _ _).alloc _).alloc _
  have bZ:Bx W3 (M+1+1) (tU d po co pc cc gI gJ (M+1)) 146:=by rw[<-ar, <-aB];exact Bx.ir _ _ _ _ oC
  have cz:kx W3 (M+1) 0 []:=by rw[<-ar, <-aB];have:=kx.made (aF.alloc (hP (ib d po co pc cc gI gJ V c dI 0 0) 33));simp only[World.size_alloc] at this;exact this.kept (World.grownBy_alloc _ _ dI) oC
  have cg:mK N W3 (M+1+1) (M+1) d po co pc cc gI gJ:=⟨oM,oM,bZ,by have:=aW.val;rw[aC] at this;exact this,by have:=aW.size;omega⟩;have bP:W3.heap.size=M+1+1+1:=by rw[<-ar, <-aB];simp
  clear cb;have U:=gF (gK aW (gK cB (gK bZ (gK cz cg))));unfold tU at ar;clear z cB bZ cz cg
  by_cases Y:c=0
  focus
   have db:((c:Int)!=0)=false:=by simp[Y]
   obtain⟨g,c1⟩:=nP W3;subst c1;obtain⟨aa,bM⟩: ∃aa:List Int,aa=[]:=⟨_,rfl⟩;obtain⟨a,Z⟩: ∃a:Option AT,a=none:=⟨_,rfl⟩;obtain⟨ah,D⟩: ∃ah:List Kv,ah=[]:=⟨_,rfl⟩;have aX:=U.o.1;have ay:Hid (Bx g M (ib d po co pc cc gI gJ V c dI 0 0) 33/\Bx g (M+1+1) (tU d po co pc cc gI gJ (M+1)) 146/\kx g (M+1) aa.length aa):=gF (by rw[bM];exact⟨U.o.2.1,U.o.2.2.1,U.o.2.2.2.1⟩);have bm:Hid (nK (M+1+1+1) g a):=gF (fun t h=>by rw[Z] at h;cases h);have ce:ah.length<=1000000:=by rw[D];simp
   have bn:Hid (j7 d gI gJ=if kX ah then dN (⟨d,gI,gJ,V,c,mv gI gJ aa⟩,pq a) else dI):=gF (by
    rw[ap.o,D,Z,bM];unfold ng;rw[if_pos Y];rfl)
   have a0:Hid (jz (pq a)=ah):=gF (by rw[D,Z];rfl);obtain⟨p,aD⟩: ∃p:Option Addr,dI=p:=⟨_,rfl⟩;have bp:Hid (jP a= hG p):=gF (by rw[Z, <-aD];rfl);have df:=gF Y;have b6:=gF aD;clear U ap Y Z bM D bP aD;obtain⟨Fb,ae⟩:=nM g.heap.size;obtain⟨W5,E⟩:=nM ((g.alloc (hP #[hF en] 4)).alloc (hP #[hE ⟨#[]⟩] 9));have aQ:dT g.heap.size g W5:=by rw[<-E];exact((dU _ g).alloc (dK _) _).alloc oC _
   have aY:Bx W5 Fb #[hF en] 4:=by rw[<-E, <-ae];exact(Bx.new g _ _).alloc _
   have aZ:Bx W5 (Fb+1) #[hE ⟨#[]⟩] 9:=by rw[<-E, <-ae];exact Bx.ir _ _ _ _ oC
   have cy:W5.heap.size=Fb+1+1:=by rw[<-E, <-ae];simp
   have aP:=gF (gK aY (gK aZ aQ));have cY:M+1+1+1<=Fb:=by rw[<-ae];have:=ay.o.2.1.lt;omega
   clear aY aZ aQ;have a2:=gF E;clear E;gi_wp2_with fail;refine⟨trivial,?_⟩;rw[a2.o];rw[show Value.pointer dI= hG p from by rw[b6.o]];clear b6
  rotate_left;focus
   have db:((c:Int)!=0)=true:=oN
   have cq:=Ee N (M+1+1) (M+1) d po co pc cc gI gJ ba bb (kT gI gJ) (by unfold kT;omega) en c [] W3 U.o.2.2.2.2 U.o.2.2.2.1 ⟨List.nodup_nil,fun _ h=>by cases h⟩ (by unfold kT;simp;omega) ⟨oM,oM⟩;have bo:=gF cq;clear cq;gi_wp2_with fail;refine⟨trivial,?_⟩;refine(eo.2 bo.o).mono ?_;rintro e g ⟨aR,bf⟩;have aX:=U.o.1.grown aR oM;cases an:iR d gI gJ (kT gI gJ) en c []
   case' none=>rw[an] at bf;obtain⟨v,k,rfl⟩:=bf;have aO:Hid (j7 d gI gJ=dI):=gF (by rw[ap.o];unfold ng;rw[if_neg Y,an]);have z:=aX;clear an aR aX bo U ar aB aW cZ c8 bP al aM;have u:=z.res;obtain⟨az,bS,bC⟩:=u.c3;have q:=z.rp;obtain⟨bv,bR,bB⟩:=q.c3;have B0:=z.rb;obtain⟨bu,bQ,bA⟩:=B0.c3;obtain⟨H,I,O⟩:=Bb u q B0 (hG dI) (hF dS);have aG:=gF (Ek (p':= hG dI) (b':= hF dS) z.below (Nat.le_of_eq aC));have ax:=gF (gK H (gK I O));unfold jW at az;clear H I O u q B0;gi_wp2;have ab:=ax.o.1.cell;have ac:=ax.o.2.1.cell;have ad:=ax.o.2.2.cell;simp only[jr,lj] at ab ac ad;refine⟨hM #[hI jW, hG dI, hF dS],by simp[ea,eV,go_sem,ab,ac,ad],?_⟩;rw[<-a1.o];unfold wW;rw[aO.o];exact⟨aG.o,rfl⟩
   case' some r=>
    obtain⟨nd,k,aa⟩:=r;rw[an] at bf;obtain⟨t,rfl,bh,cw,cv,cx⟩:=bf;have ay:=gF (gK (U.o.2.1.grown aR oC) (gK (U.o.2.2.1.grown aR oC) cx));obtain⟨a,Z⟩:=nM (dN t);have bm:Hid (nK (M+1+1+1) g a):=gF (fun dA h=>by rw[<-Z] at h;cases h;exact⟨by rw[<-bP];exact cw,by rw[bh];exact(A7 _ an).wf,cv⟩)
    obtain⟨ah,D⟩:=nM (jz (pq a));have ce:ah.length<=1000000:=by have bE:=A8 _ an;have dn:=(y6 _ an ⟨List.nodup_nil,fun _ h=>by cases h⟩).1.len oM;rw[<-D, <-Z,pq,e5,bh];show nd.iv.length<=1000000;simp at bE;omega
    have bn:Hid (j7 d gI gJ=if kX ah then dN (⟨d,gI,gJ,V,c,mv gI gJ aa⟩,pq a) else dI):=gF (by
     have e:pq a=dN nd:=by rw[<-Z,pq,e5,bh]
     have cS:ah=nd.iv:=by rw[<-D,e];rfl
     rw[ap.o,cS,e];unfold ng;rw[if_neg Y,an];simp only;cases kX nd.iv<;>rfl)
    obtain⟨p,aD⟩:=nM (dN (⟨t.b,0,dI⟩:Addr));have ct:jP a= hG p:=by rw[<-Z, <-aD];rfl
    simp only[AT.ptr,aD];have a0:=gF D;have bp:=gF ct;clear Z an bh cw cv cx aR bo U ar aB aW al aM ap aD ct D;obtain⟨Fb,ae⟩:=nM g.heap.size;obtain⟨W5,E⟩:=nM ((g.alloc (hP #[hF en] 4)).alloc (hP #[hE ⟨#[]⟩] 9));have aQ:dT g.heap.size g W5:=by rw[<-E];exact((dU _ g).alloc (dK _) _).alloc oC _
    have aY:Bx W5 Fb #[hF en] 4:=by rw[<-E, <-ae];exact(Bx.new g _ _).alloc _
    have aZ:Bx W5 (Fb+1) #[hE ⟨#[]⟩] 9:=by rw[<-E, <-ae];exact Bx.ir _ _ _ _ oC
    have cy:W5.heap.size=Fb+1+1:=by rw[<-E, <-ae];simp
    have aP:=gF (gK aY (gK aZ aQ));have cY:M+1+1+1<=Fb:=by rw[<-ae];have:=ay.o.2.1.lt;omega
    clear aY aZ aQ;have a2:=gF E;clear E;gi_wp2_with fail;refine⟨trivial,?_⟩;rw[a2.o]
  all_goals
   refine(Ec _ p _).mono ?_;rintro e aq ⟨rfl,b1,cF,a',c7⟩;rw[cy] at b1 cF c7;have aA:=iq aP.o.2.2 a';have b9:=gF (gK (aP.o.1.gD a') (aP.o.2.1.gD a'));have ag:=aX.next aA;have a5:=gF (gK (ay.o.1.gD aA) (gK (ay.o.2.1.gD aA) (ay.o.2.2.below aA)));have b3:Hid (nK (M+1+1+1) aq a):=gF (fun t bg=>by obtain⟨bU,bV,aE⟩:=bm.o t bg;exact⟨bU.ij aA,bV,aE⟩);have cp: ∀x∈pM a,M+1+1+1<=x/\x<Fb:=fun x aL=>by
    cases a with
    | none=>cases aL
    | some t=>rw[<-ae];exact(bm.o t rfl).1.lt x aL
   have a3:=gF cp;have de:=gF aA;rw[<-bp.o] at b1;clear a' aP a2 aX ay cp aA;gi_wp2;refine En cr bE (gf:=103) (lb:=#[hG (dN ⟨Fb+1+1,0,dI⟩), hG (dN ⟨Fb+1+1+1,0,dI⟩)]) rfl trivial (enters_of eR oP rfl)
    (Eb (n - 1) oM (M+1+1+1) (Fb+1+1) (Fb+1+1+1) (fun b=>b∈pM a\/b=Fb+1+1\/b=Fb+1+1+1) a aq b3.o (fun x aL=> .inl aL) (.inr (.inl rfl)) (.inr (.inr rfl)) b1 cF (by rw[a0.o];exact ce))
    (fun b f=>by rcases f with f|rfl|rfl;have:=a3.o b f;omega;omega;omega) (fun _=>rfl)
    (fun pre W=>gS [Fb,Fb+1] aq W/\(Bx W Fb #[hF pre.isEmpty] 4/\Bx W (Fb+1) #[hE (mn pre)] 9)/\kX pre=en)
    (fun bs pre W=>bs= .ret/\kX pre=dS/\gS [Fb,Fb+1,N+1,N+1+1,N+1+1+1] aq W/\Bx W (N+1) jW 33/\Bx W (N+1+1) #[hG dI] 88/\Bx W (N+1+1+1) #[hF dS] 4)
    (fun s A B da G av ao=>⟨G.1.grown av fun r e=>(ao r e).1,⟨r7 G.2.1.1 av fun r e=>(ao r e).2,r7 G.2.1.2 av fun r e=>(ao r e).2⟩,G.2.2⟩)
    (fun bs s A B da G av ao=>⟨G.1,G.2.1,G.2.2.1.grown av fun r e=>(ao r e).1,r7 G.2.2.2.1 av fun r e=>(ao r e).2,r7 G.2.2.2.2.1 av fun r e=>(ao r e).2,r7 G.2.2.2.2.2 av fun r e=>(ao r e).2⟩)
    ⟨gS.refl _ _,⟨b9.o.1,b9.o.2⟩,rfl⟩ (fun s W G=>G.1.2.2.2.1) 20 (fun x=>#[hE x.1, hE x.2]) 77
    ?assign ?body ?done ?stop
   case assign=>intro l pre x W K dq hK;simp only[List.zip_toArray,e1,e0,ec] at hK |-;gi_wp2;exact hK
   case body=>
    rintro l pre x dc W dp ⟨j,⟨C,ak⟩,am⟩ ck bK;simp only[List.zip_toArray,e1,e0,ec];have af:=JI pre x;rw[am,Bool.true_and] at af;have bd: ¬(Fb∈pM a\/Fb=Fb+1+1\/Fb=Fb+1+1+1):=by rintro (h|h|h);have:=a3.o _ h;omega;omega;omega
    have be: ¬(Fb+1∈pM a\/Fb+1=Fb+1+1\/Fb+1=Fb+1+1+1):=by rintro (h|h|h);have:=a3.o _ h;omega;omega;omega
    have u:=j.bx ag.res oN;have q:=j.bx ag.rp oN;have B0:=j.bx ag.rb oN;have aN:=gF j;have bt:=C.cell 0;have cN:=ak.cell 0;have cO:=ck.cell 0;simp only[List.getElem?_toArray,List.getElem?_cons_zero] at bt cN cO;have bz:=C.free 0;have cT:=ak.free 0;have dw:=C.lt;have dx:=ak.lt;have dy:=ck.lt;clear j;cases aK:pre.isEmpty
    case' true=>rw[aK] at bt;rw[aK,Bool.true_or] at af;clear aK
    case' false=>
     rw[aK] at bt;rw[aK,Bool.false_or] at af;clear aK;cases aJ:iB (mn pre) x.1
     case' true=>rw[aJ] at af;have c3:dM (mn pre).toList x.1.toList=true:=aJ;clear aJ
     case' false=>rw[aJ] at af;have c3:dM (mn pre).toList x.1.toList=false:=aJ;obtain⟨az,bS,bC⟩:=u.c3;obtain⟨bv,bR,bB⟩:=q.c3;obtain⟨bu,bQ,bA⟩:=B0.c3;obtain⟨H,I,O⟩:=Bb u q B0 (hG dI) (hF dS);have aw:=gF (gK H (gK I O));have cM:=gF af;unfold jW at az;clear aJ H I O af u q B0 C ak bd be am;gi_wp2;exact⟨(El W N _ _ _ _ _ _ _ _ _ _ _).from _,rfl,cM.o,(aN.o.sub (fun b f=>by simp at f |-; omega)).res oC oC oC,aw.o.1,aw.o.2.1,aw.o.2.2⟩
    all_goals
     have cI:Hid (∀v1 v2:dQ,v1= hF dS->v2= hE x.1->KeepsFrom aq.heap.size W ((W.setCell ⟨Fb,0,dI⟩ v1).setCell ⟨Fb+1,0,dI⟩ v2).drew/\iL (fun b=>b∈pM a\/b=Fb+1+1\/b=Fb+1+1+1) W ((W.setCell ⟨Fb,0,dI⟩ v1).setCell ⟨Fb+1,0,dI⟩ v2).drew/\
       (gS [Fb,Fb+1] aq ((W.setCell ⟨Fb,0,dI⟩ v1).setCell ⟨Fb+1,0,dI⟩ v2).drew/\(Bx ((W.setCell ⟨Fb,0,dI⟩ v1).setCell ⟨Fb+1,0,dI⟩ v2).drew Fb #[hF (pre++[x]).isEmpty] 4/\Bx ((W.setCell ⟨Fb,0,dI⟩ v1).setCell ⟨Fb+1,0,dI⟩ v2).drew (Fb+1) #[hE (mn (pre++[x]))] 9)/\kX (pre++[x])=en)):=gF (by
      rintro v1 v2 rfl rfl;refine⟨(((dJ _ _ _).trans (dJ _ _ _)).trans (eP _)).from _,(iL.set W (a:=⟨Fb,0,dI⟩) _ bd).trans (iL.set _ (a:=⟨Fb+1,0,dI⟩) _ be),(aN.o.set (b:=Fb) (k:=0) oC).set (b:=Fb+1) (k:=0) oC,⟨?_,?_⟩,af⟩;. refine Bx.drew ?_;rw[show(pre++[x]).isEmpty=dS by simp];have:=(C.set 0 (hF dS)).jc (a:=⟨Fb+1,0,dI⟩) oC (hE x.1);simpa using this
      . refine Bx.drew ?_;have:=(ak.jc (a:=⟨Fb,0,dI⟩) oC (hF dS)).set 0 (hE x.1);rw[Em];simpa using this)
     have cJ:Hid (∀v1 v2:dQ,v1= hF dS->v2= hE x.1->KeepsFrom aq.heap.size W ((W.setCell ⟨Fb+1,0,dI⟩ v2).setCell ⟨Fb,0,dI⟩ v1).drew/\iL (fun b=>b∈pM a\/b=Fb+1+1\/b=Fb+1+1+1) W ((W.setCell ⟨Fb+1,0,dI⟩ v2).setCell ⟨Fb,0,dI⟩ v1).drew/\
       (gS [Fb,Fb+1] aq ((W.setCell ⟨Fb+1,0,dI⟩ v2).setCell ⟨Fb,0,dI⟩ v1).drew/\(Bx ((W.setCell ⟨Fb+1,0,dI⟩ v2).setCell ⟨Fb,0,dI⟩ v1).drew Fb #[hF (pre++[x]).isEmpty] 4/\Bx ((W.setCell ⟨Fb+1,0,dI⟩ v2).setCell ⟨Fb,0,dI⟩ v1).drew (Fb+1) #[hE (mn (pre++[x]))] 9)/\kX (pre++[x])=en)):=gF (by
      rintro v1 v2 rfl rfl;refine⟨(((dJ _ _ _).trans (dJ _ _ _)).trans (eP _)).from _,(iL.set W (a:=⟨Fb+1,0,dI⟩) _ be).trans (iL.set _ (a:=⟨Fb,0,dI⟩) _ bd),(aN.o.set (b:=Fb+1) (k:=0) oC).set (b:=Fb) (k:=0) oC,⟨?_,?_⟩,af⟩;. refine Bx.drew ?_;rw[show(pre++[x]).isEmpty=dS by simp];have:=(C.jc (a:=⟨Fb+1,0,dI⟩) oC (hE x.1)).set 0 (hF dS);simpa using this
      . refine Bx.drew ?_;have:=(ak.set 0 (hE x.1)).jc (a:=⟨Fb,0,dI⟩) oC (hF dS);rw[Em];simpa using this)
     clear af am u q B0 C ak bd be;gi_wp2
     gi_region
     all_goals gi_wp2
     all_goals first|exact cI.o _ _ rfl rfl|exact cJ.o _ _ rfl rfl
   case done=>
    rintro R dH W bG rfl ⟨j,⟨C,ak⟩,am⟩ hK;rw[a0.o] at am;have b4:Hid (j7 d gI gJ=dN (⟨d,gI,gJ,V,c,mv gI gJ aa⟩,pq a)):=gF (by rw[bn.o,if_pos am]);have cD:=j.bx a5.o.1 oN;have cC:=j.bx a5.o.2.1 oN;have u:=j.bx ag.res oN;have q:=j.bx ag.rp oN;have B0:=j.bx ag.rb oN;have cA:=a5.o.2.2.same (w':=W) (j.2.2.2.2 (M+1) a5.o.2.2.lt oN);have bJ:=Ba gI gJ (M+1) aa.length aa W cA oM oM oM;obtain⟨cU,cn⟩:=nM (mv gI gJ aa);rw[cn] at bJ b4;have cL:=gF bJ;have aN:=gF j;obtain⟨cP,c9⟩:=cC.c2;unfold tU at cP;have dr:M+1+1<W.heap.size:=c9;have cV:=gF hK;have cW:=(dO.1 hK).1;clear j C ak am cA bJ cn hK cC;gi_wp2_with fail;refine⟨trivial,?_⟩;refine(eo.2 cL.o).mono ?_;rintro e bi ⟨i,y,rfl,bL,au⟩;obtain⟨X,bc⟩:=nM cU.length;rw[bc] at bL;rw[bc];have b0:=cD.gD au;have b8:=u.gD au;have b7:=q.gD au;have b2:=B0.gD au;obtain⟨cQ,dz,dl⟩:=b0.c3;have cE:=b0.set 8 (hA i X y);have cR:=cE.cell;have br:=b8.jc (a:=⟨M,8,dI⟩) oN (hA i X y);have bq:=b7.jc (a:=⟨M,8,dI⟩) oN (hA i X y);have bj:=b2.jc (a:=⟨M,8,dI⟩) oN (hA i X y);obtain⟨az,bS,bC⟩:=br.c3;obtain⟨bv,bR,bB⟩:=bq.c3;obtain⟨bu,bQ,bA⟩:=bj.c3;obtain⟨H,I,O⟩:=Ej br bq bj (gE ha d.size) (hA po d.gG.length pc) (hA co d.gH.length cc) (gE ha d.left) (gE ha gI) (gE ha gJ) (gE ha V) (gE ha c) (hA i X y) ((hG p)) (hF en);have aw:=gF (gK H (gK I O));have cf:bi.heap[R]?=dN (.deferred (dN [])):=(au.block R cW).trans cV.o;have a8:=gF (((dJ bi ⟨M,8,dI⟩ (hA i X y)).trans (El _ N (gE ha d.size) (hA po d.gG.length pc) (hA co d.gH.length cc) (gE ha d.left) (gE ha gI) (gE ha gJ) (gE ha V) (gE ha c) (hA i X y) ((hG p)) (hF en))).same R _ cf rfl);have cK:=gF ((((aN.o.ic au).sub (L':=[Fb,Fb+1,M,N+1,N+1+1,N+1+1+1]) (fun b f=>by simp at f |-; omega)).set (b:=M) (k:=8) (v:= hA i X y) oC).res (N:=N) (v0:= gE ha d.size) (v1:= hA po d.gG.length pc) (v2:= hA co d.gH.length cc) (v3:= gE ha d.left) (v4:= gE ha gI) (v5:= gE ha gJ) (v6:= gE ha V) (v7:= gE ha c) (v8:= hA i X y) (p':=(hG p)) (b':= hF en) oC oC oC);have a4:=gF (gK bL au);have b5:=gF bc;unfold jW at az;simp only[ib] at cQ;simp only[gU] at cR;clear H I O br bq bj b8 b7 b2 b0 cE cf cD u q B0 bL au bc;gi_wp2;refine⟨oC, .inl ⟨_,_,rfl,run_takeDeferred a8.o,?_⟩⟩;have ab:=(r7 aw.o.1 (ef _ R (.deferred dI)) fun r e=>by cases e;exact⟨_,a8.o,rfl⟩).cell;have ac:=(r7 aw.o.2.1 (ef _ R (.deferred dI)) fun r e=>by cases e;exact⟨_,a8.o,rfl⟩).cell;have ad:=(r7 aw.o.2.2 (ef _ R (.deferred dI)) fun r e=>by cases e;exact⟨_,a8.o,rfl⟩).cell;simp only[jr,lj] at ab ac ad;refine⟨hM #[hI (ib d po co pc cc gI gJ V c i X y),(hG p), hF en],by simp[ea,eV,go_sem,ab,ac,ad],?_⟩;rw[<-a1.o];unfold wW;rw[b4.o];have a7:=cK.o.own (l:=R) (o:= .deferred dI) bG rfl;have bF:=a7.below ag.below ag.below.size (fun b f=>by simp at f;rw[aC];omega);refine⟨bF,_,a,by rw[bp.o],⟨po,pc,co,cc,i,y,by rw[b5.o],?_,?_,?_⟩,?_,rfl⟩
    exact(cd.same fun b f=>bF.block b f).mono fun b f=>iU f bF.size;obtain⟨bT,c',bw,cu,c6,c5⟩:=nC a4.o.1;obtain⟨rfl,rfl⟩:i=bT/\y=c':=by simpa using bw
    rw[b5.o];exact cu;obtain⟨bT,c',bw,cu,c6,c5⟩:=nC a4.o.1;obtain⟨rfl,rfl⟩:i=bT/\y=c':=by simpa using bw
    have cX:=((gS.refl [M,N+1,N+1+1,N+1+1+1] bi).set (b:=M) (k:=8) (v:= hA i X y) oC).res (N:=N) (v0:= gE ha d.size) (v1:= hA po d.gG.length pc) (v2:= hA co d.gH.length cc) (v3:= gE ha d.left) (v4:= gE ha gI) (v5:= gE ha gJ) (v6:= gE ha V) (v7:= gE ha c) (v8:= hA i X y) (p':=(hG p)) (b':= hF en) oC oC oC;refine(jQ.own a4.o.1).same fun b cs dm ds bI=>?_;have c2:W.heap.size<=b/\b<bi.heap.size:=a4.o.1.lt b (by
     cases i with
     | none=>cases bI
     | some dh=>simp at bI;subst bI;rfl)
    exact(World.putObj_heap_other oM).trans (cX.2.2.2.2 b c2.2 oN);intro t bg;obtain⟨bU,bV,aE⟩:=b3.o t bg;refine⟨(bU.rJ (a7.rJ (· ∈pM a) fun b f c4=>?_) fun x aL=>?_).down (by rw[aC];omega),bV,aE⟩;have:=a3.o b f;simp at c4;omega;subst bg;exact aL
   case stop=>rintro R bs pre W bG ch ⟨rfl,am,j,H,I,O⟩ hK;rw[a0.o] at ch;have aO:Hid (j7 d gI gJ=dI):=gF (by rw[bn.o,JJ ch am];rfl);gi_wp2;refine⟨oC, .inl ⟨_,_,rfl,run_takeDeferred hK,?_⟩⟩;have ab:=(r7 H (ef _ R (.deferred dI)) fun r e=>by cases e;exact⟨_,hK,rfl⟩).cell;have ac:=(r7 I (ef _ R (.deferred dI)) fun r e=>by cases e;exact⟨_,hK,rfl⟩).cell;have ad:=(r7 O (ef _ R (.deferred dI)) fun r e=>by cases e;exact⟨_,hK,rfl⟩).cell;refine⟨hM #[hI jW, hG dI, hF dS],by simp[ea,eV,go_sem,ab,ac,ad],?_⟩;rw[<-a1.o];unfold wW;rw[aO.o];have a7:=j.own (l:=R) (o:= .deferred dI) bG rfl;exact⟨a7.below ag.below ag.below.size (fun b f=>by simp at f;rw[aC];omega),rfl⟩
variable {S:Nat->Prop}{w w':dL}{o:Option Addr}{r k b:Nat}{cs:Array dQ}{t:e4}{d:ik}{v0 v1 v2 v3 v4 v5 v6 v7:dQ}{x:Ix}{gI gJ:Int}
def sA (cs:Array dQ):Prop:= ∀(k:Nat) (s:ByteArray),cs[k]?≠dN (hE s)
theorem xG {a b:Int} {x y:dQ} (c: ∀s,x≠ hE s) (f: ∀s,y≠ hE s):sA #[gE ha a,x,y, gE ha b]:=by
 intro k s;rcases k with _|_|_|_|k<;>simp<;>first|exact c s|exact f s|skip
theorem uQ (d:ik) (po co:Option Addr) (pc cc:Nat):sA (dC d po co pc cc):=xG oC oC
abbrev dZ:Array dQ:=#[gE ha 0, hA dI 0 0, hA dI 0 0, gE ha 0]
theorem wX:sA dZ:=xG oC oC
theorem mW.apart {l:List ByteArray} (h:mW S w o l) (i:Bx w r cs t) (f:sA cs):mW (fun b=>S b/\b≠r) w o l:=by
 intro j c;obtain⟨b,q,e,a,g⟩:=h j c;refine⟨b,q,e,a,g,?_⟩;rintro rfl;rw[i.cell] at a;exact f _ _ a
theorem iV.apart {l:List PW} (h:iV S w o l) (j:Bx w r cs t) (g:sA cs):iV (fun b=>S b/\b≠r) w o l:=by
 intro q f;obtain⟨b,u,e,c,a,i⟩:=h q f;refine⟨b,u,e,c,a,i,?_⟩;rintro rfl;rw[j.cell] at a;exact g _ _ a
theorem ja.apart {v:dQ} (h:ja S w v d) (c:Bx w r cs t) (a:sA cs):ja (fun b=>S b/\b≠r) w v d:=by
 obtain⟨po,pc,co,cc,e,g,f,i⟩:=h;exact⟨po,pc,co,cc,e,g.apart c a,f.apart c a,i⟩
def Only (r:Nat) (w w':dL):Prop:=w.heap.size<=w'.heap.size/\ ∀b,b≠r->w'.heap[b]?=w.heap[b]?
theorem Only.refl (r:Nat) (w:dL):Only r w w:=⟨dK _,fun _ _=>rfl⟩
theorem Only.set (h:Only r w w') (k:Nat) (v:dQ):Only r w (w'.setCell ⟨r,k,dI⟩ v):=⟨by simpa using h.1,fun b a=>(dW w' ⟨r,k,dI⟩ v b a).trans (h.2 b a)⟩
theorem Only.one {v:dQ}:Only r w (w.setCell ⟨r,k,dI⟩ v):=(Only.refl r w).set k v
theorem Only.four:Only r w ((((w.setCell ⟨r,0,dI⟩ v0).setCell ⟨r,1,dI⟩ v1).setCell ⟨r,2,dI⟩ v2).setCell ⟨r,3,dI⟩ v3):=((((Only.refl r w).set 0 _).set 1 _).set 2 _).set 3 _
def mj (w:dL) (b:Nat) (v0 v1 v2 v3:dQ):dL:=(((w.setCell ⟨b,0,dI⟩ v0).setCell ⟨b,1,dI⟩ v1).setCell ⟨b,2,dI⟩ v2).setCell ⟨b,3,dI⟩ v3
theorem tY:Only b w (Go.Proofs.YtlefmmhlpgmbjaaGreat.mj w b v0 v1 v2 v3):=Only.four
theorem Bx.mj {u0 u1 u2 u3:dQ} (h:Bx w b #[u0,u1,u2,u3] t):Bx (Go.Proofs.YtlefmmhlpgmbjaaGreat.mj w b v0 v1 v2 v3) b #[v0,v1,v2,v3] t:=h.kz
theorem r8 {B:Nat} (h:dT B w w') (a:B<=b):dT B w (Go.Proofs.YtlefmmhlpgmbjaaGreat.mj w' b v0 v1 v2 v3):=nX (b:=b) h a
theorem Only.eight:Only r w (lj w r v0 v1 v2 v3 v4 v5 v6 v7):=((((((((Only.refl r w).set 0 _).set 1 _).set 2 _).set 3 _).set 4 _).set 5 _).set 6 _).set 7 _
theorem iF.only {v:dQ} (h:iF w v d) (g:Bx w r cs t) (f:sA cs) (c:Only r w w'):iF w' v d:=
 ((ja.apart h g f).same (w':=w') fun b a=>c.2 b a.2).mono (fun _b a=>iU a.1 c.1)
theorem kZ (a b c e f g:Int) (u v y:Option Addr) (i j q c1 c2 h:Nat):sA #[gE ha a, hA u i c1, hA v j c2, gE ha b, gE ha c, gE ha e, gE ha f, gE ha g, hA y q h]:=by
 intro k s;rcases k with _|_|_|_|_|_|_|_|_|k<;>simp
theorem jQ.only {l:List Int} (h:jQ w o l) (c:Bx w r cs t) (g:t≠3) (f:Only r w w'):jQ w' o l:=
 h.same fun b i j a _=>f.2 b (by
  rintro rfl;unfold Bx at c;rw[c] at a;simp at a;exact g a.2.1)
theorem kG.only {v:dQ} (h:kG w v x) (c:Bx w r cs t) (u:sA cs) (y:t≠3) (a:Only r w w'):kG w' v x:=by
 obtain⟨po,pc,co,cc,g,f,rfl,i,j,q⟩:=h;exact⟨po,pc,co,cc,g,f,rfl,i.only c u a,j,q.only c y a⟩
theorem Only.nine {v8:dQ}:Only r w (jr w r v0 v1 v2 v3 v4 v5 v6 v7 v8):=(Only.eight).set 8 v8
theorem Bx.only (h:Bx w b cs t) (c:Only r w w') (a:b≠r):Bx w' b cs t:=(c.2 b a).trans h
theorem uR {c:Array dQ} {a:e4} (h:Bx w b cs t) (k:Bx w r c a) (f:t≠a):b≠r:=by
 rintro rfl;unfold Bx at h k;rw[h] at k;injection k with k
 injection k with _ k
 exact f k
def n9 (w:dL) (d:ik) (er:Int) (e:Ending) (w':dL):Prop:= ∃v,e= ht (hM #[v, gE ha er])/\iF w' v d/\dT w.heap.size w w'
def j0 (ws:List PW):List lJ:=ws.map (fun x=>lJ.wr x.page x.data)++[.fl]
theorem y9 {o:lJ}:(mZ d o).1.gH.length<=d.gH.length+1:=by
 cases o with
 | wr c data=>unfold mZ;rcases Dj d c data with⟨_,_,a⟩|⟨_,_,_,_,⟨_,_,a⟩|⟨_,_,a⟩⟩;simp only[a];simp[jX];simp only[a];omega;simp only[a];simp
 | fl=>unfold mZ;rcases IM d with⟨_,_,a⟩|⟨_,_,_,a⟩|⟨_,_,_,a⟩;simp only[a];simp[jX];simp only[a];omega;simp only[a];simp
theorem JL {ws:List PW} (h:k<ws.length):gR d (j0 (ws.drop k))=if (mR d ws[k].page ws[k].data).2≠0 then mR d ws[k].page ws[k].data else gR (mR d ws[k].page ws[k].data).1 (j0 (ws.drop (k+1))):=by
 rw[eB h];rfl
theorem Er (d:ik):gR d (j0 [])=ow d:=by
 show(if (mZ d .fl).2≠0 then mZ d .fl else gR (mZ d .fl).1 [])=ow d;have e:mZ d .fl=ow d:=rfl;rw[e];split;rfl;rename_i a;have:(ow d).2=0:=by simpa using a
 rw[gR];exact Prod.ext rfl this.symm
theorem Bc (d:ik) (v:dQ) (ws:List PW) (o:Option Addr) (c:Nat) (w:dL) (ax:iF w v d) (aY:iV (· <w.heap.size) w o ws) (aZ:jk o ws.length c) (a0: ∀x∈ws,x.data.size<=140737488351232) (aX:d.gH.length+ws.length<=1000000):
  eI dV 45 #[v, hA o ws.length c] w (n9 w (gR d (j0 ws)).1 (gR d (j0 ws)).2):=by
 have ay:=ax;obtain⟨po,pc,co,cc,rfl⟩:=ax.agg;obtain⟨N,az⟩:=nM w.heap.size;obtain⟨p,aF⟩:=nM (gR d (j0 ws));rw[aF];obtain⟨m,ap⟩:=nM ws.length;have a5:m<=c:=by rcases aZ with⟨_,j,_⟩|⟨_,_,j,_⟩<;>omega
 rw[ap] at aX |-;have av:=gF ap;clear ap;go_enter func45,ntmps45;go_wp2;have aI:Bx ((w.alloc (hP (dC d po co pc cc) 25)).alloc (hP dZ 25)) N (dC d po co pc cc) 25:=by subst az;exact(Bx.new w _ _).alloc _
 have aJ:Bx ((w.alloc (hP (dC d po co pc cc) 25)).alloc (hP dZ 25)) (N+1) dZ 25:=by subst az;exact Bx.ir _ _ _ _ oC
 have ak:dT w.heap.size w ((w.alloc (hP (dC d po co pc cc) 25)).alloc (hP dZ 25)):=(Below.one w _).alloc oC _;have aA:=ay.below ak;generalize ((w.alloc (hP (dC d po co pc cc) 25)).alloc (hP dZ 25))=W0 at *
 go_loopw [12] (fun t wr=> ∃(k:Nat) (z:ik) (po pc co cc:_),k<=m/\t= gE ha k/\dT w.heap.size w wr/\
  Bx wr N (dC z po co pc cc) 25/\Bx wr (N+1) dZ 25/\iF wr (hI (dC z po co pc cc)) z/\z.gH.length<=d.gH.length+k/\Hid (gR z (j0 (ws.drop k))=p)) (fun t _=>m - (intOf t).toNat)
 case atStart=>exact⟨0,d,po,pc,co,cc,ep _,rfl,ak,aI,aJ,aA,oM,gF aF⟩
 case round=>
  clear aI aJ aA ak ay;obtain⟨k,z,po,pc,co,cc,a6,rfl,M,Y,af,ac,a4,ad⟩:=hrel;have a1:=M.size
  by_cases aW:k<m
  focus
   have ao:k<ws.length:=by rw[av.o];exact aW
   obtain⟨b,a8,rfl,ag,ah,aV⟩:=(aY.below M) k ao;have am:=a0 _ (dX ao);have u:=ad.o;rw[JL ao] at u;obtain⟨⟨X,R⟩,aG⟩: ∃x:PW,ws[k]=x:=⟨_,rfl⟩;rw[aG] at ag ah am u;simp only at ag ah am u;obtain⟨A,C,an⟩: ∃A C,mR z X R=(A,C):=⟨_,_,rfl⟩;have aj:=y9 (d:=z) (o:= .wr X R);rw[show mZ z (.wr X R)=(A,C) from an] at aj;rw[an] at u;have lb:b<wr.heap.size:=iU aV a1;have aD:(C≠0/\(A,C)=p)\/(C=0/\gR A (j0 (ws.drop (k+1)))=p):=by
    by_cases j:C=0
    right;refine⟨j,?_⟩;rw[if_neg (by simp[j])] at u;exact u
    left;refine⟨j,?_⟩;rw[if_pos j] at u;exact u
   have ab:=gF aD;have Z:=Below.one wr (hP #[gE ha X, hE R] 80);have y:=Y.gD Z;have i:=af.gD Z;have aB:=ac.below Z;have q:=iq M Z;have G:=y.cell;unfold dC at G;have ae:=y.lt;have U:=Jd z _ X R _ aB am oM an;have O:=gF U;clear aD ad u aG U ac Y af M Z aB;go_wp2_with fail;refine O.o.mono ?_;rintro e I ⟨v1,rfl,E,H⟩;have D:=E;obtain⟨h,g,f,a,rfl⟩:=E.agg;have y:=y.gD H;have i:=i.gD H;have q:=iq q H;have aH:=q.size;clear G ae ag ah O;obtain⟨W2,al⟩:=nM (I.alloc (hP (dC A h f g a) 25));have aa:dT I.heap.size I W2:=by subst al;exact Below.one I _
   have y:=y.gD aa;have i:=i.gD aa;have q:=iq q aa;have D:=D.below aa;have aH:=q.size;have aK:Bx W2 I.heap.size (dC A h f g a) 25:=by subst al;exact Bx.new I _ _
   obtain⟨aM,a7⟩:=aK.c2;unfold dC at al aM;clear aa aK;cases ai:(C !=0);.
    have aw:C=0:=by simpa using ai
    have aE:gR A (j0 (ws.drop (k+1)))=p:=by rcases ab.o with j|j;exact absurd aw j.1;exact j.2
    have aL:=gF aE;have aj:A.gH.length<=z.gH.length+1:=aj;clear aE ab aw;have G:=y.cell;unfold dC at G;have ae:=y.lt;have a3:=y.free;have aR:=gF (nX (b:=N) (v0:= gE ha A.size) (v1:= hA h A.gG.length g) (v2:= hA f A.gH.length a) (v3:= gE ha A.left) q oM);have aU:=gF (y.kz (v0:= gE ha A.size) (v1:= hA h A.gG.length g) (v2:= hA f A.gH.length a) (v3:= gE ha A.left));have aT:=gF (i.nE (b':=N) (v0:= gE ha A.size) (v1:= hA h A.gG.length g) (v2:= hA f A.gH.length a) (v3:= gE ha A.left) oM);have aS:=gF (D.only y (uQ _ _ _ _ _) (Only.four (v0:= gE ha A.size) (v1:= hA h A.gG.length g) (v2:= hA f A.gH.length a) (v3:= gE ha A.left)));clear y i E D q;go_wp2;go_roundw;case rel=>exact⟨k+1,A,h,g,f,a,oM,oQ,aR.o,aU.o,aT.o,aS.o,oM,aL⟩
    case measure=>simp[intOf];omega
   focus
    have aQ:(A,C)=p:=by rcases ab.o with j|j;exact j.2;rw[j.1] at ai;cases ai
    subst aQ;clear ab;obtain⟨aN,a2,aP⟩:=i.c3;have aq:=gF (nX (b:=N+1) (v0:= gE ha A.size) (v1:= hA h A.gG.length g) (v2:= hA f A.gH.length a) (v3:= gE ha A.left) q oM);have au:=gF (i.kz (v0:= gE ha A.size) (v1:= hA h A.gG.length g) (v2:= hA f A.gH.length a) (v3:= gE ha A.left));have ar:=gF (D.only i wX (Only.four (v0:= gE ha A.size) (v1:= hA h A.gG.length g) (v2:= hA f A.gH.length a) (v3:= gE ha A.left)));clear y i E D q
  rotate_left;focus
   obtain rfl:k=m:=oM
   have aC:ws.drop k=[]:=eS (by rw[av.o];exact dK _);have u:=ad.o;rw[aC,Er] at u;have G:=Y.cell;unfold dC at G;have ae:=Y.lt;obtain⟨A,C⟩:=p;have U:=Je z _ wr ac u;have O:=gF U;clear U ad u aC ac Y;go_wp2_with fail;refine O.o.mono ?_;rintro e I ⟨v1,rfl,E,H⟩;have D:=E;obtain⟨h,g,f,a,rfl⟩:=E.agg;have i:=af.gD H;have q:=iq M H;obtain⟨aN,a2,aP⟩:=i.c3;have aH:=q.size;have aq:=gF (nX (b:=N+1) (v0:= gE ha A.size) (v1:= hA h A.gG.length g) (v2:= hA f A.gH.length a) (v3:= gE ha A.left) q oM);have au:=gF (i.kz (v0:= gE ha A.size) (v1:= hA h A.gG.length g) (v2:= hA f A.gH.length a) (v3:= gE ha A.left));have ar:=gF (D.only i wX (Only.four (v0:= gE ha A.size) (v1:= hA h A.gG.length g) (v2:= hA f A.gH.length a) (v3:= gE ha A.left)));clear i E D q af M H O G ae
  all_goals go_wp2;have aO:=au.o.cell;refine dP (v:= hM #[hI (dC A h f g a), gE ha C]) (by simp[ea,results45,go_sem,aO]) rfl ?_;exact⟨_,rfl,ar.o,aq.o⟩
def kN (d:ik) (gI gJ:Int):Ix×Int:=
 if iQ d gI gJ≠0 then (iY,iQ d gI gJ)
 else match j7 d gI gJ with
  | none=>(iY,25)
  | some (x,_)=>(x,0)
def mz (x:Ix):Option (Option Nd):=
 if iQ x.gL x.gI x.gJ≠0 then dI
 else match j7 x.gL x.gI x.gJ with
  | none=>dI
  | some (y,t)=>if y.gZ=x.gZ/\y.gN=x.gN/\y.free=x.free then dN t else dI
def rL (w:dL) (x:Ix) (er:Int) (e:Ending) (w':dL):Prop:= ∃v,e= ht (hM #[v, gE ha er])/\kG w' v x/\dT w.heap.size w w'
structure xH (w:dL) (N:Nat) (d:ik) (po co:Option Addr) (pc cc:Nat) (W:dL):Prop where
 nJ:Bx W N (dC d po co pc cc) 25
 res:Bx W (N+1) jW 33
 below:dT w.heap.size w W
 val:iF W (hI (dC d po co pc cc)) d
 gM:w.heap.size=N
 size:N+1<W.heap.size
theorem xH.next {N:Nat} {po co:Option Addr} {pc cc:Nat} {W W':dL} (h:xH w N d po co pc cc W) (a:dT W.heap.size W W'):xH w N d po co pc cc W':=
 ⟨h.nJ.gD a,h.res.gD a,iq h.below a,h.val.below a,h.gM,iU h.size a.size⟩
theorem Es (h:iQ d gI gJ≠0):kN d gI gJ=(iY,iQ d gI gJ):=by unfold kN;rw[if_pos h]
theorem JM (h:iQ d gI gJ=0) (a:j7 d gI gJ=dI):kN d gI gJ=(iY,25):=by unfold kN;rw[if_neg (by simpa using h),a]
theorem JN (h:iQ d gI gJ=0) {t:Option Nd} (a:j7 d gI gJ=dN (x,t)):kN d gI gJ=(x,0):=by unfold kN;rw[if_neg (by simpa using h),a]
theorem Bd (d:ik) (v:dQ) (gI gJ:Int) (w:dL) (ac:iF w v d):
  eI dV 16 #[v, gE ha gI, gE ha gJ] w (rL w (kN d gI gJ).1 (kN d gI gJ).2):=by
 have aI:=ac;obtain⟨po,pc,co,cc,rfl⟩:=ac.agg;obtain⟨N,aJ⟩:=nM w.heap.size;obtain⟨W0,an⟩:=nM ((w.alloc (hP (dC d po co pc cc) 25)).alloc (hP jW 33));have aa:xH w N d po co pc cc W0:=by subst an aJ;have aj:=(Below.one w (hP (dC d po co pc cc) 25)).alloc oC (hP jW 33);exact⟨(Bx.new w (dC d po co pc cc) 25).alloc _,Bx.ir _ _ _ _ oC,aj,aI.below aj,rfl,oC⟩
 clear ac;have h:=aa.nJ.cell;unfold dC at h;have I:=aa.nJ.lt;have af:=AQ d _ W0 aa.val rfl;obtain⟨aE,ae⟩:=nM (iW d);rw[ae] at af;have aB:=gF af;have ak:=gF ae;clear af ae;go_enter func16,ntmps16;go_wp2_with fail;refine aB.o.mono ?_;rintro e ay ⟨rfl,ao⟩;have a:=aa.next ao;clear aa h I ao an;have h:=a.nJ.cell;unfold dC at h;have I:=a.nJ.lt;cases ap:(aE !=0);rotate_left;focus
  have ar:iW d≠0:=by rw[ak.o];simpa using ap
  have g:kN d gI gJ=(iY,1):=by
   have e:iQ d gI gJ=1:=by unfold iQ;rw[if_pos ar]
   rw[Es (by rw[e];decide),e]
  clear ar;have U:=gF g;have c:=a.res;obtain⟨j,ag,ai⟩:=c.c3;unfold jW at j;have X:=gF (vV (b:=N+1) a.below (by have:=a.gM;omega));have i:=gF c.pE;clear g c;go_wp2;have f:=i.o.cell;simp only[jr,lj] at f;refine dP (v:= hM #[hI jW, gE ha 1]) (by simp[ea,eH,go_sem,f]) rfl ?_
 rotate_left;have q:iW d=0:=by rw[ak.o];simpa using ap
 have aA:=gF q;cases u:jE d gI gJ;focus
  have g:kN d gI gJ=(iY,2):=by
   have e:iQ d gI gJ=2:=by unfold iQ;rw[if_neg (by simpa using q),if_pos u]
   rw[Es (by rw[e];decide),e]
  have Z:=wQ d _ gI gJ ay q u a.val;have R:=gF Z;clear Z q u;go_wp2_with fail;refine R.o.mono ?_;rintro e az ⟨rfl,Y⟩;have y:=a.next Y;clear a h I Y R;have a:=y;have U:=gF g;have c:=a.res;obtain⟨j,ag,ai⟩:=c.c3;unfold jW at j;have X:=gF (vV (b:=N+1) a.below (by have:=a.gM;omega));have i:=gF c.pE;clear g c;go_wp2;have f:=i.o.cell;simp only[jr,lj] at f;refine dP (v:= hM #[hI jW, gE ha 2]) (by simp[ea,eH,go_sem,f]) rfl ?_
 rotate_left;focus
  have Z:=wQ d _ gI gJ ay q u a.val;have R:=gF Z;have aq:iQ d gI gJ=0:=by unfold iQ;rw[if_neg (by simpa using q),if_neg (by simp[u])]
  have al:=gF aq;have aC:=gF u;clear Z q u aq;go_wp2_with fail;refine R.o.mono ?_;rintro e az ⟨rfl,Y⟩;have y:=a.next Y;clear a h I Y R;have h:=y.nJ.cell;unfold dC at h;have I:=y.nJ.lt;have au:=Ep d _ gI gJ az aA.o aC.o y.val;have am:=gF au;clear au;go_wp2_with fail;refine am.o.mono ?_;rintro e ah ⟨ad,H⟩;have ab:=y.next ad;clear y h I am;cases G:j7 d gI gJ
  case' none=>rw[G] at H;simp only at H;subst H;have g:=JM al.o G;have a:=ab.next ((dU _ ah).alloc (dK _) (hP jW 33));clear G ab ad;have U:=gF g;have c:=a.res;obtain⟨j,ag,ai⟩:=c.c3;unfold jW at j;have X:=gF (vV (b:=N+1) a.below (by have:=a.gM;omega));have i:=gF c.pE;clear g c;go_wp2;have f:=i.o.cell;simp only[jr,lj] at f;refine dP (v:= hM #[hI jW, gE ha 25]) (by simp[ea,eH,go_sem,f]) rfl ?_
  rotate_left
  case' some r=>obtain⟨x,t⟩:=r;rw[G] at H;simp only at H;obtain⟨v,aK,rfl,av,-,-⟩:=H;have g:=JN al.o G;have U:=gF g;have aw:=av;obtain⟨O,M,C,z,E,D,rfl,aF,aG,aH⟩:=av;have ax:=aw.below ((dU _ ah).alloc (dK _) (hP (ib x.gL O C M z x.gI x.gJ x.gZ x.gN E x.free.length D) 33));have a:=ab.next ((dU _ ah).alloc (dK _) (hP (ib x.gL O C M z x.gI x.gJ x.gZ x.gN E x.free.length D) 33));have c:=a.res;obtain⟨j,ag,ai⟩:=c.c3;unfold jW at j;have X:=gF (mV (b:=N+1) (v0:= gE ha x.gL.size) (v1:= hA O x.gL.gG.length M) (v2:= hA C x.gL.gH.length z) (v3:= gE ha x.gL.left) (v4:= gE ha x.gI) (v5:= gE ha x.gJ) (v6:= gE ha x.gZ) (v7:= gE ha x.gN) (v8:= hA E x.free.length D) a.below (by have:=a.gM;omega));have i:=gF (c.kh (v0:= gE ha x.gL.size) (v1:= hA O x.gL.gG.length M) (v2:= hA C x.gL.gH.length z) (v3:= gE ha x.gL.left) (v4:= gE ha x.gI) (v5:= gE ha x.gJ) (v6:= gE ha x.gZ) (v7:= gE ha x.gN) (v8:= hA E x.free.length D));have aD:=gF (ax.only c (kZ _ _ _ _ _ _ _ _ _ _ _ _ _ _ _) oF (Only.nine (v0:= gE ha x.gL.size) (v1:= hA O x.gL.gG.length M) (v2:= hA C x.gL.gH.length z) (v3:= gE ha x.gL.left) (v4:= gE ha x.gI) (v5:= gE ha x.gJ) (v6:= gE ha x.gZ) (v7:= gE ha x.gN) (v8:= hA E x.free.length D)));clear g G ab ad c a aF aG aH aw ax;go_wp2;have f:=i.o.cell;simp only[jr,lj] at f;refine dP (v:= hM #[hI (ib x.gL O C M z x.gI x.gJ x.gZ x.gN E x.free.length D), gE ha 0]) (by simp[ea,eH,go_sem,f]) rfl ?_;rw[U.o];exact⟨_,rfl,aD.o,X.o⟩
 all_goals rw[U.o];exact⟨_,rfl,kG.zero _,X.o⟩
theorem JO (c g:Option Addr) (a f:Nat) (xs ys:List Int) (w:dL) {T:Nat->Prop} (H:jk c xs.length a) (U:jk g ys.length f) (z:lp S w c xs) (C:lp T w g ys):
  eI dV 99 #[hA c xs.length a, hA g ys.length f] w fun e w'=>e= ht (hF (decide (xs=ys)))/\dT w.heap.size w w':=by
 by_cases j:xs.length=ys.length
 .
  by_cases G:xs.length=0
  obtain rfl:xs=[]:=eL G;obtain rfl:ys=[]:=eL (by rw[<-j];rfl);refine(slices_Equal_int_empty c g a 0 f w oM).mono ?_;rintro e w' ⟨rfl,rfl⟩;exact⟨oC,dU _ _⟩;obtain⟨u,D,rfl,-,-⟩:=z 0 oM;obtain⟨v,E,rfl,-,-⟩:=C 0 oM;have I:xs.length<=e3:=by rcases H with⟨i,_⟩|⟨_,_,O,R⟩;cases i;omega
  unfold e3 at I;refine(slices_Equal_int u D xs.length a v E ys.length f xs ys w (dK _) (dK _) oM oM (fun q h=>?_) fun q h=>?_).mono ?_;focus obtain⟨b,off,e,y,_⟩:=z q h;obtain⟨rfl,rfl⟩:u=b/\D=off:=by simpa using e
  rotate_left;focus obtain⟨b,off,e,y,_⟩:=C q h;obtain⟨rfl,rfl⟩:v=b/\E=off:=by simpa using e
  rotate_left;.
   rintro e w' ⟨rfl,M,rfl⟩;rw[eK,eK];refine⟨?_,Below.drewN (dU _ _) M⟩;congr 2
   by_cases i:xs=ys<;>simp[i]
  all_goals rw[y,eO,eC h];rfl
 refine(slices_Equal_int_lens c g xs.length a ys.length f w j).mono ?_;rintro e w' ⟨rfl,rfl⟩;have:decide (xs=ys)=false:=by simp;rintro rfl;exact j rfl
 rw[this];exact⟨rfl,dU _ _⟩
def vX (o:Option (Option Nd)) (w:dL) (e:Ending) (w':dL):Prop:=
 dT w.heap.size w w'/\match o with
 | none=> ∃v,e= ht (hM #[v, hF dS])
 | some t=> ∃a,e= ht (hM #[jP a, hF en])/\nK w.heap.size w' a/\pq a=t
theorem Et (h:iQ x.gL x.gI x.gJ≠0):mz x=none:=by unfold mz;rw[if_pos h]
theorem JP (h:j7 x.gL x.gI x.gJ=dI):mz x=none:=by unfold mz;rw[h];split<;>rfl
theorem JQ {y:Ix} {t:Option Nd} (h:iQ x.gL x.gI x.gJ=0) (a:j7 x.gL x.gI x.gJ=dN (y,t)):mz x=if y.gZ=x.gZ/\y.gN=x.gN/\y.free=x.free then dN t else none:=by
 unfold mz;rw[if_neg (by simpa using h),a]
theorem Be (x:Ix) (v:dQ) (w:dL) (bi:rK w v x):eI dV 59 #[v] w (vX (mz x) w):=by
 obtain⟨po,pc,co,cc,aa,am,rfl,y,g,h⟩:=bi;obtain⟨d,gI,gJ,gZ,gN,a⟩:=x;simp only at y g h |-;obtain⟨N,bf⟩:=nM w.heap.size;obtain⟨bm,ap⟩:=nM (vX (mz ⟨d,gI,gJ,gZ,gN,a⟩) w);rw[ap];have G:=gF ap;obtain⟨aS,ax⟩:=nM a.length;rw[ax];obtain⟨W0,ag⟩:=nM (w.alloc (hP (ib d po co pc cc gI gJ gZ gN aa aS am) 33));have aG:Bx W0 N (ib d po co pc cc gI gJ gZ gN aa aS am) 33:=by subst ag bf;exact Bx.new w _ _
 have an:dT w.heap.size w W0:=by subst ag;exact Below.one w _
 have aq:=y.below an;have ba:=gF ax;have a6:=gF g;have a7:Hid (lp (· <w.heap.size) w aa a):=gF h;have av:=AQ d _ W0 aq rfl;obtain⟨be,au⟩:=nM (iW d);rw[au] at av;have aN:=gF av;have aM:=gF au;obtain⟨f,q⟩:=aG.c2;unfold ib at f ag;clear av au ap ax y g h;go_enter func59,ntmps59;go_wp2_with fail;refine aN.o.mono ?_;rintro e a2 ⟨rfl,ah⟩;have aH:=aG.gD ah;have ad:=iq an ah;have af:=aq.below ah;clear f q ag aG an aq aN ah;obtain⟨f,q⟩:=aH.c2;unfold ib at f;cases aY:(be !=0);rotate_left;.
  have c:Hid (mz ⟨d,gI,gJ,gZ,gN,a⟩=dI):=gF (Et (by
   have:iW d≠0:=by rw[aM.o];simpa using aY
   unfold iQ;rw[if_pos this];decide))
  go_wp2;rw[<-G.o];unfold vX;rw[c.o];exact⟨ad,_,rfl⟩
 have i:iW d=0:=by rw[aM.o];simpa using aY
 have a9:=gF i;cases j:jE d gI gJ;.
  have c:Hid (mz ⟨d,gI,gJ,gZ,gN,a⟩=dI):=gF (Et (by
   unfold iQ;rw[if_neg (by simpa using i),if_pos j];decide))
  have R:=wQ d _ gI gJ a2 i j af;have H:=gF R;clear R i j;go_wp2_with fail;refine H.o.mono ?_;rintro e a3 ⟨rfl,z⟩;have ae:=iq ad z;clear H f q;go_wp2;rw[<-G.o];unfold vX;rw[c.o];exact⟨ae,_,rfl⟩
 .
  have R:=wQ d _ gI gJ a2 i j af;have H:=gF R;have aZ:iQ d gI gJ=0:=by unfold iQ;rw[if_neg (by simpa using i),if_neg (by simp[j])]
  have a':=gF aZ;have bb:=gF j;clear R i j aZ;go_wp2_with fail;refine H.o.mono ?_;rintro e a3 ⟨rfl,z⟩;have ae:=iq ad z;have aI:=aH.gD z;have bg:=af.below z;clear f q aH ad af H z;obtain⟨f,q⟩:=aI.c2;unfold ib at f;have a1:=Ep d _ gI gJ a3 a9.o bb.o bg;have aP:=gF a1;clear a1;go_wp2_with fail;refine aP.o.mono ?_;rintro e E ⟨ar,D⟩;have ao:=iq ae ar;have bk:=aI.gD ar;clear f q aI aP ar;obtain⟨f,q⟩:=bk.c2;unfold ib at f;cases C:j7 d gI gJ
  case' none=>rw[C] at D;simp only at D;subst D;have c:Hid (mz ⟨d,gI,gJ,gZ,gN,a⟩=dI):=gF (JP C);have O:=ao.alloc ao.size (hP jW 33);clear C
  rotate_left
  case' some r=>
   obtain⟨bl,t⟩:=r;rw[C] at D;simp only at D;obtain⟨v,I,rfl,bh,aW,a0⟩:=D;obtain⟨aC,aB,al,ak,ac,ab,rfl,y,g,h⟩:=bh;have aA:=JQ (x:=⟨d,gI,gJ,gZ,gN,a⟩) a'.o C;obtain⟨aJ,aK,aL,Y,X,U⟩:=bl;simp only at y g h aA |-;have Z:=gF aA;obtain⟨p,ay⟩: ∃p,jP I= hG p:=by cases I with
    | none=>exact⟨dI,rfl⟩
    | some t=>exact⟨_,rfl⟩
   rw[ay];have ai:dT E.heap.size E (E.alloc (hP (ib aJ aC al aB ak aK aL Y X ac U.length ab) 33)):=Below.one E _;have O:=iq ao ai;have aj:Hid (nK w.heap.size (E.alloc (hP (ib aJ aC al aB ak aK aL Y X ac U.length ab) 33)) I):=gF (fun t az=>by obtain⟨aD,aE,aF⟩:=aW t az;exact⟨(aD.down ae.size).ij ai,aE,aF⟩)
   have aw:=JO ac aa ab am U a (E.alloc (hP (ib aJ aC al aB ak aK aL Y X ac U.length ab) 33)) g a6.o (h.at.below ai) (a7.o.below O);rw[ba.o] at aw;have aO:=gF aw;have bd:=gF ay;have bc:=gF a0;unfold ib at aj aO ai O;clear C aA ay aw aW a0 y g h;cases aT:(Y==gZ);focus have c:Hid (mz ⟨d,gI,gJ,gZ,gN,a⟩=dI):=gF (by rw[Z.o,if_neg fun M=>by simp[M.1] at aT])
   rotate_left;have aQ:Y=gZ:=by simpa using aT
   have a4:=gF aQ;clear aQ;cases aU:(X==gN);focus have c:Hid (mz ⟨d,gI,gJ,gZ,gN,a⟩=dI):=gF (by rw[Z.o,if_neg fun M=>by simp[M.2.1] at aU])
   rotate_left;have aR:X=gN:=by simpa using aU
   have a5:=gF aR;clear aR;focus
    go_wp2_with fail;refine aO.o.mono ?_;rintro e bj ⟨rfl,aX⟩;have aV:=iq O aX
    by_cases u:U=a
    .
     have c:Hid (mz ⟨d,gI,gJ,gZ,gN,a⟩=dN t):=gF (by rw[Z.o,if_pos ⟨a4.o,a5.o,u⟩]);rw[decide_eq_true u];have a8:=gF (fun t az=>by obtain⟨aD,aE,aF⟩:=aj.o t az;exact⟨aD.ij aX,aE,aF⟩:nK w.heap.size bj I)
     clear u aj;go_wp2;rw[<-G.o];unfold vX;rw[c.o];exact⟨aV,I,by rw[bd.o];rfl,a8.o,bc.o⟩
    have c:Hid (mz ⟨d,gI,gJ,gZ,gN,a⟩=dI):=gF (by rw[Z.o,if_neg fun M=>u M.2.2]);rw[decide_eq_false u];clear u;go_wp2;rw[<-G.o];unfold vX;rw[c.o];exact⟨aV,_,rfl⟩
  all_goals go_wp2;rw[<-G.o];unfold vX;rw[c.o];exact⟨O,_,rfl⟩
theorem JR (x:Ix) (v:dQ) (w:dL) (q:rK w v x) {er:Int} (i:(if mz x=dI then 1 else 0)=er):eI dV 25 #[v] w fun e w'=>e= ht (gE ha er)/\dT w.heap.size w w':=by
 have u:=q;obtain⟨po,pc,co,cc,C,z,rfl,-,-,-⟩:=q;have h:=Below.one w (hP (ib x.gL po co pc cc x.gI x.gJ x.gZ x.gN C x.free.length z) 33);have j:=Be x _ _ (u.below h);have y:=gF j;have g:=gF i;clear j u i;go_enter func25,ntmps25;go_wp2_with fail;refine y.o.mono ?_;rintro e I ⟨E,c⟩;have D:=iq h E;cases a:mz x
 case' none=>rw[a] at c;obtain⟨H,rfl⟩:=c;have f:Hid (er=1):=gF (by rw[<-g.o,a];rfl)
 rotate_left
 case' some t=>rw[a] at c;obtain⟨G,rfl,-,-⟩:=c;have f:Hid (er=0):=gF (by rw[<-g.o,a];rfl)
 all_goals clear a;go_wp2;go_ret;exact⟨by rw[f.o];rfl,D⟩
theorem za: ∀a b:List UInt8,(eA a b= -1/\dM a b=en)\/(eA a b=0/\a=b)\/(eA a b=1/\dM b a=en)
 | [],[]=> .inr (.inl ⟨rfl,rfl⟩)
 | [],_::_=> .inl ⟨rfl,by simp[dM]⟩
 | _::_,[]=> .inr (.inr ⟨rfl,by simp[dM]⟩)
 | x::a,y::b=>by
  rw[eA]
  by_cases f:x<y
  rw[if_pos f];exact .inl ⟨rfl,by rw[dM];simp[f]⟩;rw[if_neg f]
  by_cases g:y<x
  rw[if_pos g];exact .inr (.inr ⟨rfl,by rw[dM];simp[g]⟩);rw[if_neg g];obtain rfl:x=y:=UInt8.le_antisymm (UInt8.not_lt.1 g) (UInt8.not_lt.1 f);rcases za a b with⟨e,c⟩|⟨e,c⟩|⟨e,c⟩;exact .inl ⟨e,by rw[dM];simp[c]⟩;exact .inr (.inl ⟨e,by rw[c]⟩);exact .inr (.inr ⟨e,by rw[dM];simp[c]⟩)
def mO (a b:ByteArray):Int:=eA a.data.toList b.data.toList
theorem JS (a b:ByteArray):mO a b<0↔iB a b=true:=by
 unfold mO iB;rw[ez,ez];rcases za a.data.toList b.data.toList with⟨e,c⟩|⟨e,c⟩|⟨e,c⟩;rw[e,c];simp;rw[e,c,uH];simp;rw[e];have:dM a.data.toList b.data.toList=false:=by cases f:dM a.data.toList b.data.toList;rfl;have:=yQ f c;rw[uH] at this;cases this
 rw[this];simp
theorem JT (a b:ByteArray):mO a b=0↔a=b:=by
 unfold mO;rcases za a.data.toList b.data.toList with⟨e,c⟩|⟨e,c⟩|⟨e,c⟩;rotate_left;rw[e];exact⟨fun _=>ByteArray.ext (Array.ext' c),fun _=>rfl⟩;all_goals rw[e];constructor;intro c;cases c;rintro rfl;rw[uH] at c;cases c
theorem JU (k v key:ByteArray) (w:dL):eI dV 139 #[hI #[hE k, hE v], hE key] w fun e w'=>e= ht (gE ha (mO k key))/\dT w.heap.size w w':=by
 have a:=fun W=>strings_Compare k key W;go_enter func139,ntmps139;go_wp2_with fail;refine(a _).mono ?_;rintro e w' ⟨rfl,rfl⟩;go_wp2;go_ret;exact⟨rfl,Below.one _ _⟩
def jM (ps:List Kv) (key:ByteArray):Nat:=(ps.takeWhile fun p=>iB p.1 key).length
def jR (ps:List Kv) (key:ByteArray):Bool:=decide ((ps[jM ps key]?).map (·.1)=dN key)
theorem ze (ps:List Kv) (key:ByteArray):jM ps key<=ps.length:=(eT _).length_le
theorem JV {ps:List Kv} (h:jZ ps) (key:ByteArray) {i:Nat} (c:i<ps.length):i<jM ps key↔iB ps[i].1 key=true:=by
 unfold jM
 induction ps generalizing i with
 | nil=>simp at c
 | cons x l v=>
  obtain⟨f,g⟩:=List.pairwise_cons.1 h;rw[eW]
  by_cases a:iB x.1 key=en
  .
   rw[if_pos a];cases i with
   | zero=>simp[a]
   | succ i=>have:=v g (i:=i) (by simpa using c);simpa using this
  rw[if_neg a];cases i with
  | zero=>simp[a]
  | succ i=>
   have u:i<l.length:=by simpa using c
   have j:=f l[i] (dX u);simp only[dY,Nat.not_lt_zero,false_iff,List.getElem_cons_succ];intro q;exact a (r6 j q)
theorem JW (gM:Nat) (v:dQ) (ps:List Kv) (key:ByteArray) (w:dL) (h:gW w gM 77 2 v ps.length (gV ps)) (au:jZ ps) (aH:ps.length<=1000000):
  eI dV 138 #[v, hE key, .func (.func 139) #[] #[]] w fun e w'=>e= ht (hM #[gE ha (jM ps key), hF (jR ps key)])/\dT w.heap.size w w':=by
 obtain⟨o,c,rfl,az,-⟩:=h.at;obtain⟨F,U⟩:=nM (jM ps key);have al:=ze ps key;have am: ∀(i:Nat) (C:i<ps.length),i<jM ps key↔iB ps[i].1 key=true:=fun i C=>JV au key C;obtain⟨R,af⟩:=nM (jR ps key);rw[U] at al |-;rw[af];have ax: ∀C:F<ps.length,(ps[F].1=key↔R=en):=fun C=>by rw[<-af];unfold jR;rw[U,eC C];simp
 have ay: ¬F<ps.length->R=false:=fun C=>by rw[<-af];unfold jR;rw[U,List.getElem?_eq_none oM];simp
 rw[U] at am;have aC:=gF am;have aA:=gF ax;have aB:=gF ay;have ae:=gF h;obtain⟨n,an⟩:=nM ps.length;have aI:n<=c:=by rcases az with⟨_,h,_⟩|⟨_,_,h,_⟩<;>omega
 rw[an] at al aH |-;have ak:=gF an;clear an am ax ay U af h az au;have aw:=fun k v W=>JU k v key W;have ar:=gF aw;clear aw;go_enter func138,ntmps138;go_wp2
 go_loopw [9,10] (fun i ao wr=> ∃a b:Nat,i= gE ha a/\ao= gE ha b/\a<=F/\F<=b/\b<=n/\dT w.heap.size w wr) (fun i ao _=>(intOf ao).toNat - (intOf i).toNat)
 case atStart=>exact⟨0,n,rfl,rfl,ep _,al,dK _,dU _ _⟩
 case round=>
  obtain⟨a,b,rfl,rfl,aE,aD,aF,g⟩:=hrel;have ag:=g.size
  by_cases aJ:a<b
  .
   have y:(a+b) / 2<ps.length:=by rw[ak.o];omega
   obtain⟨f,c',e,H,I,-,Y⟩:=vO ae.o y;obtain⟨rfl,rfl⟩:o=dN ⟨f,0,dI⟩/\c=c':=by simpa using e
   have Z:=(ae.o.lt f Y).2;have M:wr.cell? ⟨f,(a+b) / 2 * 2,dI⟩=dN (hE ps[(a+b) / 2].1):=by rw[g.cell Z];exact H
   have O:wr.cell? ⟨f,(a+b) / 2 * 2+1,dI⟩=dN (hE ps[(a+b) / 2].2):=by rw[g.cell Z];exact I
   have aG:f<wr.heap.size:=oM
   have ai:=gF (aC.o _ y);obtain⟨⟨z,ap⟩,aa⟩: ∃p:Kv,ps[(a+b) / 2]=p:=⟨_,rfl⟩;rw[aa] at M O ai;simp only at M O;have u:=JS z key;obtain⟨r,ac⟩:=nM (mO z key);have q:=ar.o z ap wr;rw[ac] at q u;have E:=gF q;have G:=gF u;have D:=gF g;clear aa H I e Y q u ac y g
   by_cases ad:r<0
   .
    have ab:(a+b) / 2<F:=ai.o.2 (G.o.1 ad);have aj:=gF ab;clear ab;go_wp2_with (refine E.o.mono ?_;rintro e aq ⟨rfl,j⟩);go_roundw;case rel=>have:=aj.o;exact⟨(a+b) / 2+1,b,by rw[show((a:Int)+(b:Int)) / 2+1=(((a+b) / 2+1:Nat):Int) by omega],rfl,oM,aD,aF,Below.then D.o j ag⟩
    case measure=>simp[intOf];omega
   have ab: ¬(a+b) / 2<F:=fun h=>ad (G.o.2 (ai.o.1 h));have aj:=gF ab;clear ab;go_wp2_with (refine E.o.mono ?_;rintro e aq ⟨rfl,j⟩);go_roundw;case rel=>have:=aj.o;exact⟨a,(a+b) / 2,rfl,by rw[show((a:Int)+(b:Int)) / 2=(((a+b) / 2:Nat):Int) by omega],aE,oM,oM,Below.then D.o j ag⟩
   case measure=>simp[intOf];omega
  obtain rfl:a=F:=oM
  obtain rfl:b=a:=oM
  by_cases av:b<n
  .
   have y:b<ps.length:=by rw[ak.o];exact av
   obtain⟨f,c',e,H,I,-,Y⟩:=vO ae.o y;obtain⟨rfl,rfl⟩:o=dN ⟨f,0,dI⟩/\c=c':=by simpa using e
   have Z:=(ae.o.lt f Y).2;have M:wr.cell? ⟨f,b * 2,dI⟩=dN (hE ps[b].1):=by rw[g.cell Z];exact H
   have O:wr.cell? ⟨f,b * 2+1,dI⟩=dN (hE ps[b].2):=by rw[g.cell Z];exact I
   have aG:f<wr.heap.size:=oM
   have ah:=gF (aA.o y);obtain⟨⟨z,ap⟩,aa⟩: ∃p:Kv,ps[b]=p:=⟨_,rfl⟩;rw[aa] at M O ah;simp only at M O;have u:=JT z key;obtain⟨r,ac⟩:=nM (mO z key);have q:=ar.o z ap wr;rw[ac] at q u;have E:=gF q;have G:=gF u;have D:=gF g;clear aa H I e Y q u ac y g;cases ad:(r==0);.
    have X:R=false:=by cases R;rfl;exact absurd (G.o.2 (ah.o.2 rfl)) (by simpa using ad)
    subst X;go_wp2_with (refine E.o.mono ?_;rintro e aq ⟨rfl,j⟩);refine dP (v:= hM #[gE ha b, hF dS]) (by simp[ea,eM,go_sem]) rfl ?_;exact⟨rfl,Below.then D.o j ag⟩
   have X:R=true:=ah.o.1 (G.o.1 (by simpa using ad));subst X;go_wp2_with (refine E.o.mono ?_;rintro e aq ⟨rfl,j⟩);refine dP (v:= hM #[gE ha b, hF en]) (by simp[ea,eM,go_sem]) rfl ?_;exact⟨rfl,Below.then D.o j ag⟩
  have X:=aB.o (by rw[ak.o];exact av);subst X;go_wp2;refine dP (v:= hM #[gE ha b, hF dS]) (by simp[ea,eM,go_sem]) rfl ?_;exact⟨rfl,g⟩
theorem Bf (gM:Nat) (b:Nat) (u:Bool) (pv q:dQ) (page:Int) (ps:List Kv) (key:ByteArray) (w:dL) (j:Bx w b (gX u pv q page) 129) (h:gW w gM 77 2 pv ps.length (gV ps)) (a:jZ ps) (i:ps.length<=1000000):
  eI dV 101 #[hG (dN ⟨b,0,dI⟩), hE key] w fun e w'=>e= ht (hM #[gE ha (jM ps key), hF (jR ps key)])/\dT w.heap.size w w':=by
 have c:=JW gM pv ps key w h a i;obtain⟨o,y,rfl,-,-⟩:=h.at;have Hb:=gF c;obtain⟨f,z⟩:=j.c2;unfold gX at f;clear c h a;go_enter func101,ntmps101;go_wp2_with fail;refine Hb.o.mono ?_;rintro e C ⟨rfl,g⟩;go_wp2;refine dP (v:= hM #[gE ha (jM ps key), hF (jR ps key)]) (by simp[ea,results101,go_sem]) rfl ?_;exact⟨rfl,g⟩
def tF (key:ByteArray) (l:List Nd):Nat:=(l.takeWhile fun k=> !iB key k.ie).length
theorem JX (key:ByteArray):tF key []=0:=rfl
theorem JY (key:ByteArray) (l:List Nd):tF key l<=l.length:=(eT _).length_le
theorem p7 {gC:List Nd} (key:ByteArray) (h:gC≠[]):ly gC key<gC.length:=by
 have:ly gC key<=gC.tail.length:=JY key gC.tail;rw[List.length_tail] at this;have:0<gC.length:=eY.2 h;omega
theorem JZ {key:ByteArray} {l:List Nd} (h:k<l.length):tF key (l.drop k)=if iB key l[k].ie=en then 0 else 1+tF key (l.drop (k+1)):=by
 unfold tF;rw[eB h,eW];cases iB key l[k].ie<;>simp<;>omega
theorem Bg (gM:Nat) (t:AT) (key:ByteArray) (w:dL) (h:h9 gM w t) (I:t.gC≠[]) (ad: ∀c∈t.gC,c.nd.first=en) (ag:t.gC.length<=1000):
  eI dV 100 #[t.ptr, hE key] w fun e w'=>e= ht (gE ha (ly (t.gC.map AT.nd) key))/\w'=w:=by
 obtain⟨b,pv,aD,ps,a,aF⟩:=t;simp only[AT.gC] at I ad ag |-;have C:=h.hx;have u:=h.hk;have aa:=h.hc;simp only[AT.b,AT.pv,AT.kv,AT.gC,AT.page] at C u aa;simp only[AT.ptr,AT.b];have M:0<a.length:=eY.2 I;obtain⟨D,c,rfl,-,av,ae⟩:=qH (i:=0) u M;have aB:=(u.lt D ae).2;have aj: ∀i (af:i<a.length),w.cell? ⟨D,i,dI⟩=dN (hG (dN ⟨a[i].b,0,dI⟩)):=fun i af=>by
  obtain⟨ar,c',e,au,-,-⟩:=qH u af;obtain⟨rfl,rfl⟩:D=ar/\c=c':=by simpa using e
  exact au
 obtain⟨K,hK⟩:=nM (a.map AT.nd);have E:K.length=a.length:=by rw[<-hK,eG]
 obtain⟨n,U⟩:=nM a.length;have ac:ly K key=tF key (K.drop 1):=by unfold ly tF;rw[List.drop_one]
 rw[hK,ac];obtain⟨y,G⟩:=nM (tF key (K.drop 1));rw[G];rw[U] at C ag av M E;have am:=gF G;have an:=gF U;have al:=gF hK;have X:=gF E;have ao:=gF aj;obtain⟨ap,aE⟩:=C.c2;unfold gX at ap;clear G U hK E aj ac C u h I ae;go_enter func100,ntmps100;go_wp2
 go_loopw [5] (fun i wr=> ∃k:Nat,i= gE ha k/\k<n/\Hid (y=k+tF key (K.drop (k+1)))/\wr=w) (fun i _=>n - (intOf i).toNat)
 case atStart=>exact⟨0,rfl,M,gF (by simpa using am.o.symm),rfl⟩
 case round=>
  obtain⟨k,rfl,aC,q,rfl⟩:=hrel
  by_cases R:k+1<n
  .
   have z:k+1<a.length:=by rw[an.o];exact R
   have ah:k+1<K.length:=by rw[X.o];exact R
   have Z:K[k+1]=a[k+1].nd:=by simp only[<-al.o,List.getElem_map]
   have aq:=ao.o (k+1) z;have v:=DM gM a[k+1] wr (aa _ (dX z)) (ad _ (dX z));have j:=gF (JZ (key:=key) ah);rw[Z] at j;obtain⟨f,ai⟩:=nM (a[k+1].nd.ie);obtain⟨aA,ab⟩:=nM (a[k+1].b);unfold AT.ptr at v;rw[ai] at v j;rw[ab] at v aq;have Y:=gF v;have aw:(k:Int)+1<(n:Int):=oM
   clear v ai ab Z z ah;cases g:iB key f with
   | true=>
    have ak:dM f.toList key.toList=false:=wN g;have ay: ¬f.toList=key.toList:=fun e=>q9 g (oB e.symm);have aG:(f.toList==key.toList)=false:=by rw[beq_eq_false_iff_ne];exact ay
    have H:Hid (y=k):=gF (by rw[q.o,j.o,if_pos g];rfl);clear q j g;go_wp2_with (refine Y.o.mono ?_;rintro e az ⟨rfl,rfl⟩);go_ret;exact⟨by rw[H.o];rfl,rfl⟩
   | false=>
    have ax:Hid (y=(k+1)+tF key (K.drop (k+1+1))):=gF (by rw[q.o,j.o,if_neg (by rw[g];decide)];omega);cases O:iB f key
    case' true=>have ak:dM f.toList key.toList=true:=O
    rotate_left
    case' false=>obtain rfl:f=key:=tC O g;have ak:dM f.toList f.toList=false:=uH _
    all_goals
     clear q j g O;go_wp2_with (refine Y.o.mono ?_;rintro e az ⟨rfl,rfl⟩);go_roundw;case rel=>exact⟨k+1,oQ,R,ax,trivial⟩
     case measure=>simp[intOf];omega
  have H:Hid (y=k):=gF (by rw[q.o,eS (by rw[X.o];omega),JX];rfl);have aw: ¬(k:Int)+1<(n:Int):=oM
  clear q;go_wp2;go_ret;exact⟨by rw[H.o];rfl,rfl⟩
end Go.Proofs.YtlefmmhlpgmbjaaGreat
