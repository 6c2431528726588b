import Derived.Test.YtlefmmhlpgmbjaaGreatR14
open Bool renaming true->ga,false->gk,false_eq_true->hL
open Option.some renaming injEq->gb
open Option renaming none->gd,some->gq,map_some->gv,map_eq_some_iff->hv,isSome_some->hy,isSome_none->hz
open Prod.mk renaming injEq->gg
open Go renaming wpQuiet_nil->gh,bodyPost_ret->gj,results->gy,World->gA,Value->gB,Calls->gM
open Go.RowKit renaming Below->gi
open List renaming take_succ_cons->gl,take_zero->gu,getElem?_eq_getElem->gw,length_nil->gx,getElem_mem->hd,nil_append->hg,map_append->hh,take_length->hl,length->hB,getElem_of_mem->hJ
open Go.Proofs.Tryz renaming prog->gm,results65->gz,results31->ho,results15->hq,underlying23->hM
open Go.Act renaming put->gn
open Go.IntWalk renaming wrap64_in->hj
open Nat renaming zero_le->hn,le_refl->hD
open Int renaming tmod_eq_emod_of_nonneg->hr
open Go.Proofs.Tryz
set_option maxRecDepth 100000
set_option maxHeartbeats 4000000
open Go.Value renaming int->gE,slice->ht,string->hA,bool->hE,agg->hF,tuple->hG
open Go.IntKind renaming i64->ha
open Go.Obj renaming cells->hI
namespace Go.Proofs.YtlefmmhlpgmbjaaGreat
open Go.RowKit Go.Shelf
variable {A:ik}{er:Int}
theorem N9 (d:ik) (v:gB) (i:Int) (data:ByteArray) (w:gA) (j:iF w v d) (k:data.size<=140737488351232) (s:d.gH.length<=1000000) (r:mR d i data=(A,er)):
  gM gm 88 #[v, gE ha i, hA data] w (n9 w A er):=by
 refine(Ip d v i data w (vJ w) j k s).mono ?_;rintro e y ⟨u,rfl,g,h⟩;rw[r] at g |-;exact⟨u,rfl, .of g (vK h),h⟩
theorem GR (d:ik) (v:gB) (w:gA) (j:iF w v d) (k:ow d=(A,er)):
  gM gm 87 #[v] w (n9 w A er):=by
 refine(Iz d v w (vJ w) j).mono ?_;rintro e s ⟨r,rfl,g,h⟩;rw[k] at g |-;exact⟨r,rfl, .of g (vK h),h⟩
def kW (n:Nat):Nat->List PW->List lJ
 | _,[]=>[.fl]
 | k,x::r=>(if k=n/\0<n then [.fl] else [])++ .wr x.page x.data::kW n (k+1) r
theorem Cu {n:Nat}: ∀{l:List PW} {k:Nat},n<k\/n=0->kW n k l=j0 l
 | [],_,_=>rfl
 | x::r,k,h=>by rw[kW,if_neg oM,Cu (l:=r) (k:=k+1) oM];rfl
theorem GS {n:Nat} (y:PW): ∀{l:List PW} {k:Nat},k+l.length=n->0<n->kW n k (l++[y])=l.map (fun x=>lJ.wr x.page x.data)++ .fl::[.wr y.page y.data, .fl]
 | [],k,h,h0=>by rw[hg,kW,if_pos ⟨by simpa using h,h0⟩,kW];rfl
 | x::r,k,h,h0=>by rw[List.cons_append,kW,if_neg (by simp at h;omega),GS y (l:=r) (k:=k+1) (by simp at h;omega) h0];rfl
theorem Oa (d:ik) (r:List lJ):gR d (.fl::r)=if (ow d).2≠0 then ow d else gR (ow d).1 r:=rfl
theorem GU (d:ik) (i:Int) (s:ByteArray) (r:List lJ):gR d (.wr i s::r)=if (mR d i s).2≠0 then mR d i s else gR (mR d i s).1 r:=rfl
theorem Ob (d:ik):(ow d).1.gH.length<=d.gH.length+1:=y9 (o:= .fl)
theorem GV (d:ik) (i:Int) (s:ByteArray):(mR d i s).1.gH.length<=d.gH.length+1:=y9 (o:= .wr i s)
theorem GW (d:ik) (v:gB) (ws:List PW) (o:Option Addr) (c n:Nat) (w:gA) (aS:iF w v d) (aZ:iV (· <w.heap.size) w o ws) (bi:jk o ws.length c) (bj: ∀x∈ws,x.data.size<=140737488351232) (bg:d.gH.length+2 * ws.length<=1000000):
  gM gm 50 #[v, ht o ws.length c, gE ha n] w (n9 w (gR d (kW n 0 ws)).1 (gR d (kW n 0 ws)).2):=by
 have aT:=aS;obtain⟨po,pc,co,cc,rfl⟩:=aS.agg;obtain⟨N,aU⟩:=nM w.heap.size;obtain⟨p,hp⟩:=nM (gR d (kW n 0 ws));rw[hp];obtain⟨m,aI⟩:=nM ws.length;have br:m<=c:=by rcases bi with⟨_,k,_⟩|⟨_,_,k,_⟩<;>omega
 rw[aI] at bg |-;have aM:=gF aI;clear aI;go_enter func50,ntmps50;go_wp2;have a2:Bx ((w.alloc (hI (dC d po co pc cc) 25)).alloc (hI dZ 25)) N (dC d po co pc cc) 25:=by subst aU;exact(Bx.new w _ _).alloc _
 have U:Bx ((w.alloc (hI (dC d po co pc cc) 25)).alloc (hI dZ 25)) (N+1) dZ 25:=by subst aU;exact Bx.ir _ _ _ _ oC
 have aC:gi w.heap.size w ((w.alloc (hI (dC d po co pc cc) 25)).alloc (hI dZ 25)):=(Below.one w _).alloc oC _;have aW:=aT.below aC;generalize ((w.alloc (hI (dC d po co pc cc) 25)).alloc (hI dZ 25))=W0 at *
 go_loopw [8,9] (fun a8 t wr=> ∃(j:Nat) (g:ik) (er:Int) (po pc co cc:_),j<=m/\t= gE ha j/\a8= gE ha er/\gi w.heap.size w wr/\
  Bx wr N (dC g po co pc cc) 25/\Bx wr (N+1) dZ 25/\iF wr (hF (dC g po co pc cc)) g/\g.gH.length<=d.gH.length+2 * j/\Hid ((er=0/\gR g (kW n j (ws.drop j))=p)\/(er≠0/\(g,er)=p))) (fun _ t _=>m - (intOf t).toNat)
 case atStart=>exact⟨0,d,0,po,pc,co,cc,hn _,rfl,rfl,aC,a2,U,aW,oM,gF (.inl ⟨rfl,hp⟩)⟩
 case round=>
  clear a2 U aW aC aT;obtain⟨j,g,er,po,pc,co,cc,bs,rfl,rfl,H,G,L,X,hc,aq⟩:=hrel;have bx:=H.size
  by_cases Y:er=0
  rotate_left;.
   have gp:(g,er)=p:=by rcases aq.o with k|k;exact absurd k.1 Y;exact k.2
   subst gp;have bh:(er==0)=false:=by simpa using Y
   have bv:(er !=0)=true:=by simpa using Y
   have D:=G.cell;unfold dC at D;have aa:=G.lt;obtain⟨a6,bl,a9⟩:=L.c3;have ax:=gF (nX (b:=N+1) (v0:= gE ha g.size) (v1:= ht po g.gG.length pc) (v2:= ht co g.gH.length cc) (v3:= gE ha g.left) H oM);have az:=gF (L.kz (v0:= gE ha g.size) (v1:= ht po g.gG.length pc) (v2:= ht co g.gH.length cc) (v3:= gE ha g.left));have ay:=gF (X.only L wX (Only.four (v0:= gE ha g.size) (v1:= ht po g.gG.length pc) (v2:= ht co g.gH.length cc) (v3:= gE ha g.left)));clear L X H G Y aq hc
   by_cases bu:j<m
   rotate_left;all_goals go_wp2;have aB:=az.o.cell;refine gj (v:= hG #[hF (dC g po co pc cc), gE ha er]) (by simp[gy,results50,go_sem,aB]) rfl ?_;exact⟨_,rfl,ay.o,ax.o⟩
  subst Y;have B:gR g (kW n j (ws.drop j))=p:=by rcases aq.o with k|k;exact k.2;exact absurd rfl k.1
  by_cases bf:j<m
  .
   have aw:j<ws.length:=by rw[aM.o];exact bf
   have aH:=bj _ (hd aw);rw[List.drop_eq_getElem_cons aw,kW] at B;obtain⟨⟨ah,ae⟩,aK⟩: ∃x:PW,ws[j]=x:=⟨_,rfl⟩;rw[aK] at aH B;simp only at aH B;have aP:=gF aK;clear aq aK
   by_cases aY:j=n
   focus
    subst aY
    by_cases be:0<j
    focus
     rw[if_pos ⟨rfl,be⟩,List.singleton_append,Oa] at B;obtain⟨h,af,Y⟩: ∃A e,ow g=(A,e):=⟨_,_,rfl⟩;have aR:h.gH.length<=g.gH.length+1:=by have:=Ob g;rw[Y] at this;exact this
     rw[Y] at B;have D:=G.cell;unfold dC at D;have aa:=G.lt;have ap:=GR g _ wr X Y;have aj:=gF ap;have aA:=gF B;clear ap Y B X;go_wp2_with fail;refine aj.o.mono ?_;rintro e bq ⟨v1,rfl,O,av⟩;have al:=O;obtain⟨y,u,s,r,rfl⟩:=O.agg;have J:=G.gD av;have Z:=L.gD av;have aE:=iq H av;have bz:=aE.size;clear D aa aj O av;obtain⟨T,ag⟩:=nM ((((bq.setCell ⟨N,0,gd⟩ (gE ha h.size)).setCell ⟨N,1,gd⟩ (ht y h.gG.length u)).setCell ⟨N,2,gd⟩ (ht s h.gH.length r)).setCell ⟨N,3,gd⟩ (gE ha h.left));have E:=ag▸(nX (b:=N) (v0:= gE ha h.size) (v1:= ht y h.gG.length u) (v2:= ht s h.gH.length r) (v3:= gE ha h.left) aE oM);have U:=ag▸(J.kz (v0:= gE ha h.size) (v1:= ht y h.gG.length u) (v2:= ht s h.gH.length r) (v3:= gE ha h.left));have ai:=ag▸(Z.nE (b':=N) (v0:= gE ha h.size) (v1:= ht y h.gG.length u) (v2:= ht s h.gH.length r) (v3:= gE ha h.left) oM);have am:=ag▸(al.only J (uQ _ _ _ _ _) (Only.four (v0:= gE ha h.size) (v1:= ht y h.gG.length u) (v2:= ht s h.gH.length r) (v3:= gE ha h.left)));have D:=J.cell;unfold dC at D;have aa:=J.lt;have aQ:=J.free;have aN:=gF ag;clear ag J Z al aE G L H;go_upto_region 7 with fail
     rw[aN.o];clear D aa aQ
     by_cases ak:af=0
     focus
      subst ak;have I:gR h (.wr ah ae::kW j (j+1) (ws.drop (j+1)))=p:=by have:=aA.o;simpa using this
      clear aA aN
     rotate_left;.
      have bh:(af==0)=false:=by simpa using ak
      have a3:Hid ((af=0/\gR h (kW j (j+1) (ws.drop (j+1)))=p)\/(af≠0/\(h,af)=p)):=gF (.inr ⟨ak,by have:=aA.o;rw[if_pos ak] at this;exact this⟩);have ar:=gF (gK E (gK U (gK ai am)));clear E U ai am ak;go_wp2;go_roundw;case rel=>exact⟨j+1,h,af,y,u,s,r,oM,oQ,rfl,ar.o.1,ar.o.2.1,ar.o.2.2.1,ar.o.2.2.2,oM,a3⟩
      case measure=>simp[intOf];omega
    rotate_left;focus
     rw[if_neg oM,hg] at B;have I:=B;have E:=H;have U:=G;have ai:=L;have am:=X;have aR:g.gH.length<=g.gH.length+1:=oM
     clear B H G L X;obtain⟨T,rfl⟩:=nP wr;obtain⟨h,rfl⟩:=nP g
    all_goals
     obtain⟨b,bn,rfl,ac,ad,ao⟩:=(aZ.below E) j aw;rw[aP.o] at ac ad;simp only at ac ad;have bm:b<T.heap.size:=iU ao E.size;clear ao;obtain⟨A,er,ab⟩: ∃A er,mR h ah ae=(A,er):=⟨_,_,rfl⟩;have a':A.gH.length<=h.gH.length+1:=by have:=GV h ah ae;rw[ab] at this;exact this
     have aJ:(er=0/\gR A (kW j (j+1) (ws.drop (j+1)))=p)\/(er≠0/\(A,er)=p):=by
      rw[GU,ab] at I
      by_cases k:er=0
      left;refine⟨k,?_⟩;rw[if_neg (by simp[k])] at I;exact I
      right;refine⟨k,?_⟩;rw[if_pos k] at I;exact I
   rotate_left 2;focus
    rw[if_neg fun k=>aY k.1,hg] at B;have bt:((j:Int)==(n:Int))=false:=oN
    have I:=B;have E:=H;have U:=G;have ai:=L;have am:=X;have aR:g.gH.length<=g.gH.length+1:=oM
    clear B H G L X;obtain⟨T,rfl⟩:=nP wr;obtain⟨h,rfl⟩:=nP g;obtain⟨b,bn,rfl,ac,ad,ao⟩:=(aZ.below E) j aw;rw[aP.o] at ac ad;simp only at ac ad;have bm:b<T.heap.size:=iU ao E.size;clear ao;obtain⟨A,er,ab⟩: ∃A er,mR h ah ae=(A,er):=⟨_,_,rfl⟩;have a':A.gH.length<=h.gH.length+1:=by have:=GV h ah ae;rw[ab] at this;exact this
    have aJ:(er=0/\gR A (kW n (j+1) (ws.drop (j+1)))=p)\/(er≠0/\(A,er)=p):=by
     rw[GU,ab] at I
     by_cases k:er=0
     left;refine⟨k,?_⟩;rw[if_neg (by simp[k])] at I;exact I
     right;refine⟨k,?_⟩;rw[if_pos k] at I;exact I
   all_goals
    have a4:=gF aJ;have a1:=fun W (H:gi T.heap.size T W)=>N9 h _ ah ae W (am.below H) aH oM ab;have aO:=gF a1;have bk:=E.size;clear aJ I a1 ab;have D:=U.cell;unfold dC at D;have aa:=U.lt;have a5:=jv.cells T;have aL:Hid (∀x:jv T,gi T.heap.size T x.w):=gF fun x=>x.h;go_upto_region 8 with fail
    refine sf 15 14 2 #[ga,ga,ga,ga,ga,ga,ga,ga,ga,ga,ga,ga,ga,ga,gk,gk,gk] #[ga,ga,ga,ga,ga,ga,ga,ga,ga,ga,ga,ga,ga,ga,ga,gk,gk] (fun i=>if i=11 then gq (nh A er) else gd) _ oP rfl oO oO oP oO rfl (fun _ _ _ _ k=>k) (sg _ _ rfl) ?_;simp only[gl,gu];refine LW.b 11 11 ?_;simp only[jC];repeat (go_big_quiet_step (fail))
    refine gh ?_;refine LW.z ?_ ?_;. intro bA _;unfold ix;go_simp;exact qM (aO.o _ (aL.o _))
    intro bo;simp only[gn,gU,nh];refine LW.b 3 15 ?_;simp only[jC];repeat (go_big_quiet_step (fail))
    refine gh ?_;refine LW.done ?_;intro bp aF;have aV:iF bp (bo.x 0) A:=aF.get 11 rfl rfl;have au:=aF.below;have O:=aV;obtain⟨y,u,s,r,a7⟩:=aV.agg;rw[a7] at O |-;have J:=U.gD au;have Z:=ai.gD au;have aD:=iq E au;clear aF a5 aL aO au D aa ac ad ai U;have D:=J.cell;unfold dC at D;have aa:=J.lt;have aQ:=J.free;have bw:=aD.size;have ba:=gF (nX (b:=N) (v0:= gE ha A.size) (v1:= ht y A.gG.length u) (v2:= ht s A.gH.length r) (v3:= gE ha A.left) aD oM);have bd:=gF (J.kz (v0:= gE ha A.size) (v1:= ht y A.gG.length u) (v2:= ht s A.gH.length r) (v3:= gE ha A.left));have bc:=gF (Z.nE (b':=N) (v0:= gE ha A.size) (v1:= ht y A.gG.length u) (v2:= ht s A.gH.length r) (v3:= gE ha A.left) oM);have bb:=gF (O.only J (uQ _ _ _ _ _) (Only.four (v0:= gE ha A.size) (v1:= ht y A.gG.length u) (v2:= ht s A.gH.length r) (v3:= gE ha A.left)));clear J Z O aD;refine iG 15 fun K hK=>?_;go_simp;refine hK _ _ ?_;clear hK K;refine iG 16 fun K hK=>?_;go_simp;refine hK _ _ ?_;clear hK K;refine kS ?_;go_wp2;go_roundw;case rel=>exact⟨j+1,A,er,y,u,s,r,oM,oQ,rfl,ba.o,bd.o,bc.o,bb.o,oM,a4⟩
    case measure=>simp[intOf];omega
  .
   obtain rfl:j=m:=oM
   have aX:ws.drop j=[]:=List.drop_of_length_le (by rw[aM.o];exact hD _);rw[aX,kW] at B;have a0:ow g=p:=(Er g).symm.trans B;have D:=G.cell;unfold dC at D;have aa:=G.lt;obtain⟨A,er⟩:=p;have ap:=GR g _ wr X a0;have aj:=gF ap;clear ap aq B a0 aX X G;go_wp2_with fail;refine aj.o.mono ?_;rintro e T ⟨v1,rfl,O,aG⟩;have al:=O;obtain⟨y,u,s,r,rfl⟩:=O.agg;have Z:=L.gD aG;have E:=iq H aG;obtain⟨a6,bl,a9⟩:=Z.c3;have bk:=E.size;have ax:=gF (nX (b:=N+1) (v0:= gE ha A.size) (v1:= ht y A.gG.length u) (v2:= ht s A.gH.length r) (v3:= gE ha A.left) E oM);have az:=gF (Z.kz (v0:= gE ha A.size) (v1:= ht y A.gG.length u) (v2:= ht s A.gH.length r) (v3:= gE ha A.left));have ay:=gF (al.only Z wX (Only.four (v0:= gE ha A.size) (v1:= ht y A.gG.length u) (v2:= ht s A.gH.length r) (v3:= gE ha A.left)));clear Z O al E L H aG aj D aa;go_wp2;have aB:=az.o.cell;refine gj (v:= hG #[hF (dC A y s u r), gE ha er]) (by simp[gy,results50,go_sem,aB]) rfl ?_;exact⟨_,rfl,ay.o,ax.o⟩
theorem Oc (d:ik) (v:gB) (gI gJ:Int) (w:gA) (aq:iF w v d) (hc:d.gH.length<=999990):
  gM gm 15 #[v, gE ha gI, gE ha gJ] w (n9 w (kY d gI gJ).1 (kY d gI gJ).2):=by
 obtain⟨R,ay⟩:=nM (kY d gI gJ);rw[ay];have ar:=aq;obtain⟨po,pc,co,cc,rfl⟩:=aq.agg;obtain⟨N,aO⟩:=nM w.heap.size;obtain⟨W0,ah⟩:=nM ((w.alloc (hI (dC d po co pc cc) 25)).alloc (hI dZ 25));have aG:Bx W0 N (dC d po co pc cc) 25:=by subst ah aO;exact(Bx.new w _ _).alloc _
 have aW:Bx W0 (N+1) dZ 25:=by subst ah aO;exact Bx.ir _ _ _ _ oC
 have ap:gi w.heap.size w W0:=by subst ah;exact(Below.one w _).alloc oC _
 have az:=ar.below ap;have aC:=DF d _ W0 az rfl;obtain⟨a3,aB⟩:=nM (iW d);rw[aB] at aC;have aJ:=gF aC;have aI:=gF aB;have bc:=gF ar;have ab:=gF ay;obtain⟨ad,aj⟩:=aG.c2;clear aC aB aq ar ay;go_enter func15,ntmps15;go_wp2_with fail;refine aJ.o.mono ?_;rintro e am ⟨rfl,U⟩;have Y:=aG.gD U;have k:=aW.gD U;have G:=iq ap U;have T:=az.below U;clear ad aj aG aW ah U ap az aJ;cases aR:(a3 !=0);rotate_left;focus
  have aa:Hid (R=(jX,1)):=gF (by
   have:iW d≠0:=by rw[aI.o];simpa using aR
   have e:iQ d gI gJ=1:=by unfold iQ;rw[if_pos this]
   rw[<-ab.o];unfold kY;rw[e];rfl)
  obtain⟨Wf,g⟩:=nM (mj am (N+1) (gE ha 0) (ht gd 0 0) (ht gd 0 0) (gE ha 0));have Z:Bx Wf (N+1) dZ 25:=by subst g;exact k.mj
  have y:gi w.heap.size w Wf:=by subst g;exact r8 G oM
  have I:=gF g;have ac:=gF y;clear y g;obtain⟨ad,aj,aL⟩:=k.c3;go_wp2;have r:=I.o;unfold mj at r;rw[r];have L:=Z.cell;refine gj (v:= hG #[hF dZ, gE ha 1]) (by simp[gy,hq,go_sem,L]) rfl ?_
 rotate_left;have s:iW d=0:=by rw[aI.o];simpa using aR
 have bd:=gF s;obtain⟨ao,aU⟩:=Y.c2;unfold dC at ao;cases E:jE d gI gJ;focus
  have aa:Hid (R=(jX,2)):=gF (by
   have e:iQ d gI gJ=2:=by unfold iQ;rw[if_neg (by simpa using s),if_pos E]
   rw[<-ab.o];unfold kY;rw[e];rfl)
  have X:=yV d _ gI gJ am s E T;have J:=gF X;clear X s E;go_wp2_with fail;refine J.o.mono ?_;rintro e H ⟨rfl,j⟩;obtain⟨bb,a9⟩:=nP am;have k:=k.gD j;have G:=iq G j;clear ao aU Y T J j a9 bb;obtain⟨Wf,g⟩:=nM (mj H (N+1) (gE ha 0) (ht gd 0 0) (ht gd 0 0) (gE ha 0));have Z:Bx Wf (N+1) dZ 25:=by subst g;exact k.mj
  have y:gi w.heap.size w Wf:=by subst g;exact r8 G oM
  have I:=gF g;have ac:=gF y;clear y g;obtain⟨ad,aj,aL⟩:=k.c3;go_wp2;have r:=I.o;unfold mj at r;rw[r];have L:=Z.cell;refine gj (v:= hG #[hF dZ, gE ha 2]) (by simp[gy,hq,go_sem,L]) rfl ?_
 rotate_left;.
  have X:=yV d _ gI gJ am s E T;have J:=gF X;have aS:iQ d gI gJ=0:=by unfold iQ;rw[if_neg (by simpa using s),if_neg (by simp[E])]
  obtain⟨a5,bf,bg,bh,bi⟩:=ra E;have a8:=pd (nY s).1;obtain⟨D,ai⟩:=nM (bs (jg []));obtain⟨B,ag⟩:=nM (bs (jd 512 1 0));have bk:D.size<=1000:=by rw[<-ai,lM];simp[jg]
  have bj:B.size<=1000:=by rw[<-ag,lM];simp[jd,jh]
  obtain⟨F,O,au⟩: ∃F O,gR d (j0 [⟨gI,D⟩,⟨gI+1,B⟩])=(F,O):=⟨_,_,rfl⟩;have aa:Hid (R=(F,O)):=gF (by rw[<-ab.o, <-au, <-ai, <-ag];unfold kY;rw[if_neg (by simp[aS])];rfl);have aZ:=gF au;have aE: ∀W,gM gm 51 #[hA ByteArray.empty] W fun e w'=>e= .returned (hA (bs (jg [])))/\gi W.heap.size W w':=fun W=>yS ByteArray.empty W oC;have aD: ∀W,gM gm 52 #[gE ha 1, gE ha 0] W fun e w'=>e= .returned (hA (bs (jd 512 1 0)))/\gi W.heap.size W w':=fun W=>yT 1 0 W;simp only[ai] at aE;simp only[ag] at aD;have a1:=gF aE;have a0:=gF aD;have bl:gI<=2000:=oM
  have bm:wrap64 (gI+1)=gI+1:=hj _ oM;clear X s E aS aE aD au ai ag a5 a8 ab;go_wp2_with fail;refine J.o.mono ?_;rintro e H ⟨rfl,j⟩;have Y:=Y.gD j;have k:=k.gD j;have a6:=iq G j;have a7:=gF (T.below j);clear ao aU G T J j;obtain⟨aK,a'⟩:=Y.c2;unfold dC at aK;have be:=jv.cells H;have aY:Hid (∀x:jv H,gi H.heap.size H x.w):=gF fun x=>x.h;go_wp2;refine pS 12 2 #[ga,ga,ga,ga,ga,ga,ga,ga,ga,ga,ga,ga,gk,gk] (fun i=>if i=2 then gq (iw (hA D)) else if i=3 then gq (iw (hF #[gE ha gI, hA D])) else if i=7 then gq (iw (hF #[gE ha (gI+1), hA B])) else if i=6 then gq (iw (hA B)) else if i=8 then gq (p8 2 [gE ha gI, hA D, gE ha (gI+1), hA B] 80) else if i=9 then gq (nh F O) else gd) oP oO oO oP ?_;simp only[gl,gu];refine LW.b 2 2 ?_;simp only[jC];repeat (go_big_quiet_step (fail))
  refine gh ?_;refine LW.z ?_ ?_;. intro u _;unfold ix;go_simp;exact qF (a1.o _)
  intro _;simp only[gn,gU]
  (try simp only[iw])
  refine LW.z ?_ ?_;intro u _;exact pC ((by go_simp));intro _;simp only[gn,gU]
  (try simp only[iw])
  refine LW.b 2 6 ?_;simp only[jC];repeat (go_big_quiet_step (fail))
  refine gh ?_;refine LW.z ?_ ?_;. intro u _;unfold ix;go_simp;exact qF (a0.o _)
  intro _;simp only[gn,gU]
  (try simp only[iw])
  refine LW.z ?_ ?_;intro u _;exact pC ((by go_simp));intro _;simp only[gn,gU]
  (try simp only[iw])
  refine LW.z ?_ ?_;. intro u hf;unfold ix;go_simp;exact⟨Below.one _ _,fun _=>undef,rfl,fun bn aA=>(Bx.new u.w _ _).gD aA⟩
  intro aF;simp only[gn,gU];refine LW.z ?_ ?_;.
   intro u hf;have aM:Bx u.w aF.lo #[gE ha gI, hA D, gE ha (gI+1), hA B] 80:=(hf 8 (by decide+kernel)).get oO oO;unfold ix;simp only[p8];go_simp;have aP:=GW d _ [⟨gI,D⟩,⟨gI+1,B⟩] (gq ⟨aF.lo,0,gd⟩) 2 0 u.w (a7.o.below (aY.o _)) ((iV.js (S:=fun b=>b=aF.lo) (gO.bx aM)).mono fun b aA=>by rw[aA];exact aM.lt) (.inr ⟨_,rfl,oC,by simp[maxLen]⟩) (by intro x aT;simp at aT;rcases aT with rfl|rfl<;>simp<;>omega) (by simp only[j1,gx];omega)
   rw[Cu (.inr rfl),aZ.o] at aP;exact qM aP
  intro ba;simp only[gn,gU,nh];refine LW.b 2 12 ?_;simp only[jC];repeat (go_big_quiet_step (fail))
  refine gh ?_;refine LW.done ?_;intro aV av;have aQ:iF aV (ba.x 0) F:=av.get 9 rfl rfl;have aw:=av.below;have ax:=aQ;obtain⟨al,ak,af,ae,a4⟩:=aQ.agg;rw[a4] at ax |-;have aH:=k.gD aw;have aN:=iq a6 aw;obtain⟨Wf,g⟩:=nM (mj aV (N+1) (gE ha F.size) (ht al F.gG.length ak) (ht af F.gH.length ae) (gE ha F.left));have Z:Bx Wf (N+1) (dC F al af ak ae) 25:=by subst g;exact aH.mj
  have y:gi w.heap.size w Wf:=by subst g;exact r8 aN oM
  have aX:iF Wf (hF (dC F al af ak ae)) F:=by subst g;exact ax.only aH wX tY
  have I:=gF g;have ac:=gF y;have a2:=gF aX;clear av aK a' aw y aX ax aN g;obtain⟨ad,aj,aL⟩:=aH.c3;refine iG 12 fun K hK=>?_;go_simp;refine hK _ _ ?_;clear hK K;refine iG 13 fun K hK=>?_;go_simp;refine hK _ _ ?_;clear hK K;refine kS ?_;go_wp2;have r:=I.o;unfold mj at r;rw[r];have L:=Z.cell;refine gj (v:= hG #[hF (dC F al af ak ae), gE ha O]) (by simp[gy,hq,go_sem,L]) rfl ?_;rw[aa.o];exact⟨_,rfl,a2.o,ac.o⟩
 all_goals rw[aa.o];exact⟨_,rfl,rE _,ac.o⟩
open Go.RowKit
variable {a b c e n:Nd}{l m:List Nd}{o p t:Option Nd}{look:List UInt8->Option Int}{C:Int->List UInt8}{x:Ix}{q:kq}{f:FuncId}{args:Array gB}{S:Nat->Prop}{W:gA}{d:ik}{R:Ix×Int}{gI gJ:Int}{V:Nat}
theorem rX:a.er=b.er↔a.ps=b.ps/\a.gC.map Nd.er=b.gC.map Nd.er:=by
 rw[Nd.jJ,Nd.jJ];constructor;intro g;simp only[Nd.mk.injEq,and_true] at g;exact g;rintro⟨h,j⟩;rw[h,j]
theorem th (h:a.er=b.er):a.gC=[]↔b.gC=[]:=by rw[<-Nd.oU (n:=a),h,Nd.oU]
theorem yq (h:a.er=b.er):a.gC.length=b.gC.length:=by
 have:=congrArg hB (rX.1 h).2;simpa using this
theorem GX (h:a.er=b.er) (key:ByteArray):ly a.gC key=ly b.gC key:=by
 rw[<-zh a.gC,(rX.1 h).2,zh]
theorem Cv (h:l.map Nd.er=m.map Nd.er) (i:Nat):(l[i]?).map Nd.er=(m[i]?).map Nd.er:=by
 have:=congrArg (fun x:List Nd=>x[i]?) h;simpa using this
theorem Ah (h:l.map Nd.er=m.map Nd.er) (i:Nat):(l.take i).map Nd.er=(m.take i).map Nd.er:=by rw[List.map_take,List.map_take,h]
theorem Ai (h:l.map Nd.er=m.map Nd.er) (i:Nat):(l.drop i).map Nd.er=(m.drop i).map Nd.er:=by rw[List.map_drop,List.map_drop,h]
theorem wH (h:l.map Nd.er=m.map Nd.er):(kt l).er=(kt m).er:=rX.2 ⟨rfl,h⟩
def uC (r:Nd×Option Nd):List Nd:=r.1::r.2.toList
theorem Od (h:a.er=b.er):(uC (jA a)).map Nd.er=(uC (jA b)).map Nd.er:=by
 obtain⟨k,j⟩:=rX.1 h;have r:=yq h;unfold jA
 by_cases g:a.gC=[]
 rw[if_pos g,if_pos ((th h).1 g),k];split;rfl;simp[uC,h];rw[if_neg g,if_neg fun e=>g ((th h).2 e),r];split;simp[uC,wH (Ah j 5),wH (Ai j 5)];simp[uC,h]
theorem Oe (x:Kv): ∀{a b:Nd},a.er=b.er->(uC (jB x a)).map Nd.er=(uC (jB x b)).map Nd.er:=by
 intro a
 induction a using Nd.ind with
 | h E B D z=>
  intro b h;obtain⟨y,j⟩:=rX.1 h
  by_cases g:(Nd.mk E B D).gC=[]
  rw[vZ g,vZ ((th h).1 g),y];have s:b.gC≠[]:=fun e=>g ((th h).2 e);rw[xJ g,xJ s];have hc:=GX h x.1;have v:=p7 x.1 g;have u:=p7 x.1 s;have k:=Cv j (ly b.gC x.1);refine Od (wH ?_);have r:=z _ (hd v) (b:=b.gC[ly b.gC x.1]'u) (by
   rw[gw u,gw (by rw[<-hc];exact v)] at k;simp only[gv,gb] at k;simp only[hc];exact k)
  unfold uC at r;simp only[hh,List.map_cons,hc] at r |-;rw[Ah j,Ai j,r]
theorem Og (h:o.map Nd.er=p.map Nd.er) (x:Kv):(ku o x).er=(ku p x).er:=by
 cases o with
 | none=>
  cases p with
  | none=>rfl
  | some b=>cases h
 | some a=>
  cases p with
  | none=>cases h
  | some b=>
   simp only[gv,gb] at h;have g:=Oe x h;unfold ku;simp only;generalize jB x a=u at *;generalize jB x b=v at *;obtain⟨r,k⟩:=u;obtain⟨s,j⟩:=v;unfold uC at g;cases k with
   | none=>
    cases j with
    | none=>simpa using g
    | some c=>simp at g
   | some c=>
    cases j with
    | none=>simp at g
    | some e=>exact wH (by simpa using g)
theorem Oh (h:a.er=b.er) (k:c.er=e.er):(ig a c).er=(ig b e).er:=by
 obtain⟨g,j⟩:=rX.1 h;obtain⟨r,s⟩:=rX.1 k;refine rX.2 ⟨?_,?_⟩;show a.ps++c.ps=b.ps++e.ps;rw[g,r];show(a.gC++c.gC).map Nd.er=(b.gC++e.gC).map Nd.er;rw[hh,hh,j,s]
theorem Oi (h:a.er=b.er) (k:Nat):(jo a k).1.er=(jo b k).1.er/\(jo a k).2.er=(jo b k).2.er:=by
 obtain⟨r,j⟩:=rX.1 h;unfold jo
 by_cases g:a.gC=[]
 rw[if_pos g,if_pos ((th h).1 g),r];exact⟨rfl,rfl⟩;rw[if_neg g,if_neg fun e=>g ((th h).2 e)];exact⟨wH (Ah j _),wH (Ai j _)⟩
theorem Oj (h:a.er=b.er):a.iX=b.iX:=by
 unfold Nd.iX;simp only[th h,yq h,(rX.1 h).1]
theorem GY (h:a.er=b.er):a.jO=b.jO:=by
 unfold Nd.jO;simp only[th h,yq h,(rX.1 h).1]
theorem GZ (h:a.er=b.er):a.size=b.size:=by
 unfold Nd.size;rw[yq h,(rX.1 h).1]
theorem Ol (h:a.er=b.er) (k:c.er=e.er) (left:Bool):(lu a c left).map Nd.er=(lu b e left).map Nd.er:=by
 have g:=Oh h k;unfold lu;rw[GY h,GY k,GZ h];cases left
 case' true=>simp only[if_true]
 rotate_left
 case' false=>simp only[hL,if_false]
 all_goals split;simp[Oi g];simp[g]
theorem Om (h:l.map Nd.er=m.map Nd.er) (k:Nat):(kK l k).map Nd.er=(kK m k).map Nd.er:=by
 have y:=Cv h;unfold kK;have r:=y k;cases B:l[k]? with
 | none=>
  rw[B] at r;cases s:m[k]? with
  | none=>exact h
  | some z=>rw[s] at r;cases r
 | some x=>
  rw[B] at r;cases s:m[k]? with
  | none=>rw[s] at r;cases r
  | some z=>
   rw[s] at r;simp only[gv,gb] at r;simp only;rw[Oj r];split;exact h;have g:=y (k - 1);have j:=y (k - 1+1);cases D:l[k - 1]? with
   | none=>
    rw[D] at g;cases u:m[k - 1]? with
    | none=>exact h
    | some z=>rw[u] at g;cases g
   | some G=>
    rw[D] at g;cases u:m[k - 1]? with
    | none=>rw[u] at g;cases g
    | some I=>
     rw[u] at g;cases E:l[k - 1+1]? with
     | none=>
      rw[E] at j;cases v:m[k - 1+1]? with
      | none=>exact h
      | some z=>rw[v] at j;cases j
     | some H=>
      rw[E] at j;cases v:m[k - 1+1]? with
      | none=>rw[v] at j;cases j
      | some J=>rw[v] at j;simp only[gv,gb] at g j;simp only[hh];rw[Ah h,Ai h,Ol g j]
theorem Oo (h:l.map Nd.er=m.map Nd.er) (i:Nat) {x y:Nd} (k:x.er=y.er):(l.set i x).map Nd.er=(m.set i y).map Nd.er:=by rw[List.map_set,List.map_set,h,k]
theorem Oq (key:ByteArray): ∀{a b:Nd},a.er=b.er->(ji key a).er=(ji key b).er:=by
 intro a
 induction a using Nd.ind with
 | h E B D z=>
  intro b h;obtain⟨y,k⟩:=rX.1 h
  by_cases g:(Nd.mk E B D).gC=[]
  rw[ji,if_pos g,ji,if_pos ((th h).1 g),y];have r:b.gC≠[]:=fun e=>g ((th h).2 e);rw[xc g,xc r];have hc:=GX h key;have v:=p7 key g;have u:=p7 key r;have j:=Cv k (ly b.gC key);have s:=z _ (hd v) (b:=b.gC[ly b.gC key]'u) (by
   rw[gw u,gw (by rw[<-hc];exact v)] at j;simp only[gv,gb] at j;simp only[hc];exact j)
  refine wH ?_;simp only[hc] at s |-;exact Om (Oo k _ s) _
theorem Ot (h:o.map Nd.er=p.map Nd.er) (key:ByteArray):(jx o key).map Nd.er=(jx p key).map Nd.er:=by
 cases o with
 | none=>
  cases p with
  | none=>rfl
  | some b=>cases h
 | some a=>
  cases p with
  | none=>cases h
  | some b=>
   simp only[gv,gb] at h;have key:=Oq key h;unfold jx;simp only;generalize ji _ a=u at *;generalize ji _ b=v at *;have g:=(rX.1 key).2;have y:=yq key;have z:=GZ key;cases k:u.gC
   case' nil=>have j:=(th key).1 k;rw[j]
   rotate_left
   case' cons c r=>
    cases j:v.gC
    case' nil=>rw[k,j] at y;simp at y
    case' cons e s=>
     rw[k,j] at g;simp only[List.map_cons,List.cons.injEq] at g;cases r
     case' nil=>
      cases s with
      | nil=>simp[g.1]
      | cons f s=>simp at g
     case' cons f r=>
      cases s
      case' nil=>simp at g
   all_goals simp only[z];split;rfl;simp[key]
theorem Ou (h:o.map Nd.er=p.map Nd.er) (c:ju):(j6 o c).map Nd.er=(j6 p c).map Nd.er:=by
 unfold j6;split;simp[Og h];exact Ot h _
theorem G0: ∀(l:List ju) {o p:Option Nd},o.map Nd.er=p.map Nd.er->(l.foldl j6 o).map Nd.er=(l.foldl j6 p).map Nd.er
 | [],_,_,h=>h
 | c::l,o,p,h=>by rw[List.foldl_cons,List.foldl_cons];exact G0 l (Ou h c)
theorem Ov (h:a.er=b.er) (p:kq):l7 look a p=l7 look b p:=by
 rw[<-zx,h,zx]
theorem Ow (ps:List Kv) (gC:List Nd) (g g':Int):(Nd.mk ps gC g).iv=(Nd.mk ps gC g').iv:=by
 cases gC with
 | nil=>rw[Nd.iv,Nd.iv]
 | cons h j=>rw[Nd.iv,Nd.iv]
theorem Ox: ∀{n a b:Nd} {x:Kv},jZ n.iv->a∈n.pre->b∈n.pre->x∈a.iv->x∈b.iv->a∈b.pre\/b∈a.pre:=by
 intro n
 induction n using Nd.ind with
 | h L I J H=>
  intro a b x j z B v y;rcases um z with rfl|⟨O,s,k⟩;exact .inr B;rcases um B with rfl|⟨c,hc,r⟩;exact .inl z;obtain⟨i,g,rfl⟩:=hJ s;obtain⟨u,D,rfl⟩:=hJ hc;have G:(Nd.mk L I J).gC≠[]:=by intro e;rw[e] at g;exact absurd g oC
  rw[Nd.iu G] at j
  by_cases e:i=u
  subst e;exact H _ s (j.sub (List.sublist_flatten_of_mem (List.mem_map.2 ⟨_,s,rfl⟩))) k r v y;exfalso;have E:=(List.pairwise_flatten.1 j).2;rw[List.pairwise_map] at E;have hp:=List.pairwise_iff_getElem.1 E;rcases Nat.lt_or_gt_of_ne e with h|h;have:=hp i u g D h x ((xh k).subset v) x ((xh r).subset y);rw[tB] at this;cases this;have:=hp u i D g h x ((xh r).subset y) x ((xh k).subset v);rw[tB] at this;cases this
theorem Oy (s:kM n) (E:jZ n.iv) (o:qA C n) (h:a∈n.pre) (r:b∈n.pre) (e:iy a=iy b):a.page=b.page:=by
 obtain⟨B,k⟩:=Fk (wz s h) (wz s r) (o.sub h) (o.sub r) e;obtain⟨x,u⟩:=List.exists_mem_of_ne_nil _ (wz s h).sV;have I:x∈b.iv:=by rw[<-Nd.eta a,B,k,Ow _ _ _ b.page,Nd.eta] at u;exact u
 have z: ∀{j v:Nd},j.gC=v.gC->j∈v.pre->j=v:=by intro j v g H;rcases um H with D|⟨O,y,G⟩;exact D;have J:=Fj G;rw[<-g] at y;have L:=Nd.nc y;omega
 rcases Ox E h r u I with g|g;rw[z k g];rw[z k.symm g]
theorem G1 {m:Nd}: ∀{l:List Nd} {f:ByteArray->Option Int},(m∈l\/f (bs (iy m))≠gd)->lW f l (bs (iy m))≠gd
 | [],f,h=>by rcases h with h|h;cases h;exact h
 | k::l,f,h=>by
  show lW (qq f (bs (iy k)) k.page) l (bs (iy m))≠gd;refine G1 ?_;rcases h with h|h;rcases j4.1 h with rfl|h
  right;unfold qq;rw[if_pos rfl];simp
  exact .inl h;right;unfold qq;split;simp;exact h
theorem Oz (h:nW t) (hp: ∀n,t=gq n->qA C n):(fun s=>sU t (bs s))=qG t:=by
 funext s;cases t with
 | none=>rfl
 | some n=>
  have E:=h.qN rfl;have z:=(h n rfl).2;have D:=hp n rfl;show lW (fun _=>gd) n.pre (bs s)=(n.je.find? fun j=>decide (iy j=s)).map Nd.page;cases hf:n.je.find? fun j=>decide (iy j=s) with
  | none=>
   cases B:lW (fun _=>gd) n.pre (bs s) with
   | none=>rfl
   | some y=>rcases zB B with g|⟨m,k,g,r⟩;cases g;have:=List.find?_eq_none.1 hf m (xi.2 k);exact absurd (yF g) (by simpa using this)
  | some j=>
   have u:iy j=s:=by simpa using List.find?_some hf
   have v:j∈n.pre:=xi.1 (List.mem_of_find?_eq_some hf);cases hc:lW (fun _=>gd) n.pre (bs s) with
   | none=>have:=G1 (f:=fun _=>gd) (.inl v);rw[u] at this;exact absurd hc this
   | some y=>rcases zB hc with g|⟨m,k,g,r⟩;cases g;have:=Oy E z D k v (by rw[yF g,u]);rw[<-r,this];rfl
theorem G2 {d:ik} {gI gJ:Int}: ∀(f:Nat) {page:Int} {used u:List Int} {n:Nd},iH d gI gJ f page used=gq (n,u)->n.page=page/\ ∀m∈n.pre,gI+2<=m.page/\m.page<gJ/\gQ d m.page=iy m
 | 0,_,_,_,_,h=>by cases h
 | f+1,page,used,u,n,h=>by
  rw[iH] at h;split at h;cases h;rename_i D;rw[not_or,not_or] at D;split at h;split at h;cases h;split at h;cases h;rename_i ps E;split at h;rename_i k;simp only[gb,gg] at h;obtain⟨rfl,-⟩:=h;refine⟨rfl,fun m j=>?_⟩;rcases um j with rfl|⟨v,g,_⟩;exact⟨by show gI+2<=page;omega,by show page<gJ;omega,k.symm⟩;cases g;cases h;split at h;cases h;rename_i hc;rw[not_or,not_or] at hc;split at h;cases h;rename_i r G g;split at h;rename_i k;simp only[gb,gg] at h;obtain⟨rfl,-⟩:=h;obtain⟨y,z⟩:=wu g;have s:r.length=((gQ d page).getD 1 0).toNat:=by rw[y];simp[mg]
  refine⟨rfl,fun m j=>?_⟩;rcases um j with rfl|⟨v,g,j⟩;refine⟨by show gI+2<=page;omega,by show page<gJ;omega,?_⟩;show gQ d page=iy _;rw[<-k];unfold iy oY;rw[if_neg (show(Nd.mk [] r page).gC≠[] from fun e=>by have e:r=[]:=e;rw[e,gx] at s;exact hc.2.1 (by rw[<-s];decide))]
  rfl;obtain⟨p,H,I,B⟩:=z v g;exact(G2 f B).2 m j;cases h
theorem OA (h:n4 x=gq t): ∀n,t=gq n->qA (gQ x.gL) n:=by
 intro n v;unfold n4 at h;split at h;cases h;rename_i hf;have r:iQ x.gL x.gI x.gJ=0:=by simpa using hf
 have y:=xj r;cases g:kJ x.gL x.gI x.gJ with
 | none=>rw[g] at h;cases h
 | some k=>
  obtain⟨k,B⟩:=k;rw[g] at h;simp only at h;split at h;simp only[gb] at h;subst h v;unfold kJ at g;split at g;cases g;split at g;cases g;rename_i D E j;simp only[gb,gg] at g;obtain⟨-,rfl⟩:=g;unfold l5 at j;split at j;cases j;split at j;cases j;rename_i z G s;split at j;simp only[gb,gg] at j;obtain⟨rfl,-⟩:=j;have:=(G2 _ s).2;exact fun m u=>by obtain⟨a,b,c⟩:=this m u;exact⟨c,oM,oM⟩
  cases j;cases h
def pY (x:Ix) (l:List ju):Ix×Int:=
 match n4 x with
 | none=>(iY,1)
 | some t=>
  if iD gd l≠0 then (iY,iD gd l)
  else if l.any (rk (jz t)) then (iY,15)
  else if l=[] then (x,0)
  else match lR x t l with
   | none=>(iY,17)
   | some (n,p)=>
    if 1099511627776<=x.gZ then (iY,17)
    else if (gR x.gL (n5 x p.ws (iA n))).2≠0 then ({ x with gL:=(gR x.gL (n5 x p.ws (iA n))).1 },(gR x.gL (n5 x p.ws (iA n))).2)
    else jF (gR x.gL (n5 x p.ws (iA n))).1 x.gI x.gJ
theorem OB (h:nW t) (c:ju):rk (jz t) c=og t c:=by
 unfold rk og;rw[Mb,Ma h];cases (ky (jz t) c.key).2<;>simp
theorem OC (h:nW t) (hp: ∀n,t=gq n->qA (gQ x.gL) n) (l:List ju):lR x t l=kO x t l:=by
 unfold lR kO;have g:=G0 l (o:=t) (p:=t.map Nd.er) (by cases t<;>simp[Nd.xI])
 rw[Oz h hp];cases k:l.foldl j6 t with
 | none=>
  cases j:l.foldl j6 (t.map Nd.er) with
  | none=>rfl
  | some b=>rw[k,j] at g;cases g
 | some a=>
  cases j:l.foldl j6 (t.map Nd.er) with
  | none=>rw[k,j] at g;cases g
  | some b=>rw[k,j] at g;simp only[gv,gb] at g;simp only;rw[Ov g]
theorem OD (h:n4 x=gq t):x.gZ<=1099511627776:=by
 unfold n4 at h;split at h;cases h;cases g:kJ x.gL x.gI x.gJ with
 | none=>rw[g] at h;cases h
 | some v=>
  obtain⟨v,G⟩:=v;rw[g] at h;simp only at h;split at h;.
   rename_i z;unfold kJ at g;split at g;cases g;rename_i B;split at g;cases g;simp only[gb,gg] at g;obtain⟨rfl,-⟩:=g;rw[<-z.1];show(((jY x.gL x.gI x.gJ).1:Nat):Int)<=_;have: ∀a s,∀r u,jV a x.gI x.gJ s=gq (r,u)->r<=1099511627776:=fun a s r u j=>by unfold jV at j;split at j;rename_i hc;simp only[gb,gg] at j;omega;cases j
   unfold jY mY;cases y:jV (gQ x.gL x.gI) x.gI x.gJ 0 with
   | none=>
    cases k:jV (gQ x.gL (x.gI+1)) x.gI x.gJ 1 with
    | none=>simp
    | some b=>have:=this _ _ _ _ k;simp;omega
   | some a=>
    have D:=this _ _ _ _ y;cases k:jV (gQ x.gL (x.gI+1)) x.gI x.gJ 1 with
    | none=>simp;omega
    | some b=>have E:=this _ _ _ _ k;simp only;split<;>omega
  cases h
theorem OE {l:List ju} (D: ∀y,lN x l=(y,0)->l≠[]->jF y.gL x.gI x.gJ=(y,0)):pY x l=lN x l:=by
 unfold pY;cases j:n4 x with
 | none=>rw[BG (by rw[wx];exact j)]
 | some t=>
  have h:mz x=gq t:=by rw[wx];exact j
  have v:=BF j;have B:l.any (rk (jz t))=l.any (og t):=by congr 1;funext c;exact OB v c
  simp only;rw[B,OC v (OA j)]
  by_cases hc:iD gd l=0
  .
   rw[if_neg (by simpa using hc)];cases r:l.any (og t) with
   | true=>rw[if_pos rfl,zz h hc r]
   | false=>
    rw[if_neg oC]
    by_cases g:l=[]
    subst g;rw[if_pos rfl,zA h];rw[if_neg g];cases hp:kO x t l with
    | none=>rw[uX h hc r g (.inl hp)]
    | some E=>
     obtain⟨n,p⟩:=E;simp only;have G:=OD j
     by_cases z:x.gZ=1099511627776
     rw[if_pos oM,uX h hc r g (.inr z)];rw[if_neg oM];obtain⟨F,er,u⟩: ∃F er,gR x.gL (n5 x p.ws (iA n))=(F,er):=⟨_,_,rfl⟩;have k:=xd h hc r g hp z u;rw[u];simp only
     by_cases s:er≠0
     rw[if_pos s,k,if_pos s];rw[if_neg s] at k |-;rw[D _ k g,k]
  rw[if_pos hc,zy h hc]
theorem OG {p:kq} {j:List Nd} (h:kM n) (s:oH look p) (u:lB look n.gC p=gq (j,q)) (g:Int):lC (.mk n.ps j g):=by
 obtain⟨k,B,r⟩:=zo (fun y _ p z q h=>uT y p z q h) u;have v:kM (.mk n.ps j g):=by
  have:(Nd.mk n.ps j g).er=n.er:=by rw[Nd.jJ,Nd.jJ];show Nd.mk n.ps (j.map Nd.er) 0=_;rw[k]
  exact kM.vx (this▸h.er)
 exact v.rO (r s)
theorem G3 {look:List UInt8->Option Int}: ∀{j:List Nd} {p q:kq} {r:List Nd},(∀k∈j,∀p B q,l7 look k p=gq (B,q)->oH look p-> ∀w∈q.ws,w∈p.ws\/w.data.size=512)->lB look j p=gq (r,q)->oH look p-> ∀w∈q.ws,w∈p.ws\/w.data.size=512
 | [],p,q,r,_,h,_,w,hw=>by rw[lB] at h;simp only[gb,gg] at h;obtain⟨-,rfl⟩:=h;exact .inl hw
 | k::j,p,q,r,ih,h,hb,w,hw=>by rw[lB] at h;split at h;cases h;rename_i D E u;obtain⟨⟨m,G⟩,y,e⟩:=hv.1 h;simp only[gg] at e;obtain⟨rfl,rfl⟩:=e;have hf:=(uT _ _ _ _ u).2.1;rcases G3 (fun x z=>ih x (by simp[z])) y ⟨hb.1,fun s v=>hb.2 s (hf s v)⟩ w hw with g|g;exact ih k oC _ _ _ u hb w g;exact .inr g
theorem OH: ∀(n:Nd) (p:kq) (j:Nd) (q:kq),l7 look n p=gq (j,q)->kM n->oH look p-> ∀w∈q.ws,w∈p.ws\/w.data.size=512:=by
 intro n
 induction n using Nd.pW with
 | h n z=>intro p j q h u g w v;rw[sF] at h;split at h;cases h;rename_i B D r;have hK:=G3 (fun y s p j q h g=>z y s p j q h (u.kid y s) g) r g;split at h;simp only[gb,gg] at h;obtain⟨-,rfl⟩:=h;exact hK w v;split at h;cases h;simp only[gb,gg] at h;obtain⟨-,rfl⟩:=h;rcases jD.1 v with k|k;exact hK w k;rw[lx.1 k];right;show(bs _).size=512;rw[lM,Fz (OG u g r 0)]
theorem OI (x:Ix) (ws:List PW) (gN:Int):kW ws.length 0 (ws++[qQ x gN])=n5 x ws gN:=by
 by_cases g:ws=[]
 subst g;rw[Fw];exact Cu (.inr rfl);have h:0<ws.length:=List.length_pos_iff.2 g;rw[GS (qQ x gN) oM h,BS gN g];unfold j0;simp[qQ]
def rY (S:Nat->Prop) (n:Nd):mS:=⟨fun x=> hF #[x.x 0,x.x 1,x.x 2],fun x W=> ∃(po:Option Addr) (pc:Nat) (ko:Option Addr) (kc:Nat),
 (x.x 0= ht po n.ps.length pc/\x.x 1= ht ko n.gC.length kc/\x.x 2= gE ha n.page)/\jf (fun b=>S b\/(x.lo<=b/\b<x.hi)) W (il po pc ko kc n) n⟩
theorem yr (j: ∀b,S b->b<W.heap.size) (h:gM gm f args W (lv S W n)):
  gM gm f args W fun e w'=> ∃u,e= .returned u/\pR (rY S n) W u w':=
 h.mono fun _ w' ⟨hb,po,pc,ko,kc,he,h1⟩=>⟨_,he,hb,fun i=>(il po pc ko kc n)[i]?.getD undef,rfl,fun s k=>⟨po,pc,ko,kc,⟨rfl,rfl,rfl⟩,h1.keep (fun b g=>by
  have r:=hb.size;rcases g with g|g;. have:=j b g;omega
  . exact g.2) k⟩⟩
def rZ (S:Nat->Prop) (o:Option Nd):mS:=⟨fun x=> hG #[hF #[x.x 0,x.x 1,x.x 2], hE o.isSome],fun x W=> ∃(po:Option Addr) (pc:Nat) (ko:Option Addr) (kc:Nat),
 (x.x 0= ht po (Nd.nr o).ps.length pc/\x.x 1= ht ko (Nd.nr o).gC.length kc/\x.x 2= gE ha (Nd.nr o).page)/\jf (fun b=>S b\/(x.lo<=b/\b<x.hi)) W (il po pc ko kc (Nd.nr o)) (Nd.nr o)⟩
theorem yt (j: ∀b,S b->b<W.heap.size) (h:gM gm f args W (rW S W o)):
  gM gm f args W fun e w'=> ∃u,e= .returned u/\pR (rZ S o) W u w':=
 h.mono fun _ w' ⟨hb,po,pc,ko,kc,he,h1⟩=>⟨_,he,hb,fun i=>(il po pc ko kc (Nd.nr o))[i]?.getD undef,rfl,fun s k=>⟨po,pc,ko,kc,⟨rfl,rfl,rfl⟩,h1.keep (fun b g=>by
  have r:=hb.size;rcases g with g|g;. have:=j b g;omega
  . exact g.2) k⟩⟩
theorem OJ (o:Option Nd) (x:Kv) (po ko:Option Addr) (pc kc:Nat) (w:gA) (h: ∀b,S b->b<w.heap.size) (g:jf S w (il po pc ko kc (Nd.nr o)) (Nd.nr o)) (t:nW o):
  gM gm 112 #[hF (il po pc ko kc (Nd.nr o)).toArray, hE o.isSome, hF #[hA x.1, hA x.2]] w (lv S w (ku o x)):=by
 cases o with
 | none=>exact Ns x po _ pc ko _ kc _ w S
 | some n=>obtain⟨⟨r,k⟩,j⟩:=t n rfl;exact Nt x n po ko pc kc w h g k j
structure yu (x:Ix) (t:Option Nd) (l:List ju):Prop where
 tm: ∀k,nW ((l.take k).foldl j6 t)
 len: ∀k,(jz ((l.take k).foldl j6 t)).length<=7000
 kv: ∀c∈l,k6 (c.key,c.new)
 uA:oH (qG t) ⟨x.free,[]⟩
 old: ∀n,t=gq n-> ∀m∈n.je,lC m
 few: ∀n,t=gq n->n.je.length<=6000
 gZ:1<=x.gZ/\x.gZ<=1099511627776
 gI:0<=x.gI/\x.gI<=1000000
theorem OL: ∀n:Nd,n.je.length=n.pre.length:=by
 intro n
 induction n using Nd.pW with
 | h n j=>have e:n.gC.map (hB ∘ Nd.je)=n.gC.map (hB ∘ Nd.pre):=List.map_congr_left fun k g=>j k g;rw[zN,Nd.jy];simp only[iI,List.length_flatten,List.map_map,j1,gx,e]
theorem OM {l:List ju} (s:n4 x=gq t) (hc:iD gd l=0) (O:l.length<=1000):yu x t l:=by
 have y:=xX (by rw[wx];exact s:mz x=gq t);have g:=y.good;have D:=BF s;have B:=(Ag s).2.2.1;have z: ∀c∈l,k6 (c.key,c.new):=fun c E=>(wy hc c E).1;have v: ∀h,nW ((l.take h).foldl j6 t)/\(jz ((l.take h).foldl j6 t)).length<=7000:=fun h=>by
  have:=xY (l:=l.take h) D fun c hc=>z c (List.mem_of_mem_take hc);have L:(l.take h).length<=l.length:=by rw[List.length_take];omega
  exact⟨this.1,oM⟩
 refine⟨fun h=>(v h).1,fun h=>(v h).2,z,⟨fun T u j=>?_,fun u j=>?_⟩,fun n k m r=>?_,fun n k=>?_,y.gZ,by have:=g.1;have:=g.2.1;have:=g.2.2.1;omega⟩;.
  cases t with
  | none=>cases j
  | some n=>obtain⟨m,r,rfl⟩:=NH (NG n▸j);obtain⟨-,-,H,I,-⟩:=g.2.2.2.1 n rfl m (xi.1 r);have:=g.1;have:=g.2.1;omega
 have:=g.2.2.2.2 u j;have:=g.1;have:=g.2.1;omega;exact(g.2.2.2.1 n k m (xi.1 r)).2.2.2.2;obtain⟨⟨j,G⟩,-⟩:=D n k;have:=G.cnt1;rw[OL];rw[k] at B;have J:n.iv.length<=6000:=B;omega
theorem OO {l:List ju} {s:Option Nd} (g:yu x t l) (h:lR x t l=gq (s,q)):0<=iA s/\iA s<=1000000/\q.ws.length<=7000/\ ∀y∈q.ws,y.data.size=512:=by
 unfold lR at h;have k:=g.tm l.length;have j:=g.len l.length;rw[hl] at k j;cases hf:l.foldl j6 t with
 | none=>rw[hf] at h;simp only[gb,gg] at h;obtain⟨rfl,rfl⟩:=h;exact⟨Int.le_refl _,oF,hn _,fun y r=>by cases r⟩
 | some v=>rw[hf] at h k j;obtain⟨⟨H,I⟩,hp,e⟩:=hv.1 h;simp only[gg] at e;obtain⟨rfl,rfl⟩:=e;obtain⟨⟨G,z⟩,-⟩:=k v rfl;have D:=z.cnt1;have E:v.iv.length<=7000:=j;have B:=wk _ _ _ _ hp;have u:=(uT _ _ _ _ hp).2.2 g.uA;simp only[gx] at B;exact⟨u.1,u.2,oM,fun y r=>by rcases OH _ _ _ _ hp (z.qN oF oF) g.uA y r with h|h;cases h;exact h⟩
section
variable {P:Program} {ops:Array Oper} {md:Region.Mode} {sp:Nat->List Nat} {an:kg} {W0:gA} {i:Nat}
theorem OP {f:FuncId} {args:Array gB} {v:gB} {W:gA} (g:W0.heap.size<=W.heap.size) (h:gM P f args W fun e w'=>e= .returned v/\gi W.heap.size W w') (hf: ∀w',gi W.heap.size W w'-> ∀j B s,iE md ops sp i j=ga->an j=gq B->B.Φ s W->B.Φ s w'):
  gM P f args W fun e w'=> ∃u,e= .returned u/\tK md ops sp an W0 i (iw v) W u w':=
 h.mono fun _ w' ⟨he,hb⟩=>⟨_,he,hb.mono g,fun _=>undef,rfl,trivial,hf w' hb⟩
def tj (B:Nat) (t:TypeId) (dl:Nat) (xs l:List gB) (s v:gB):kg:=fun i=>if i=11 then gq (iw s) else qY B t dl xs l 13 14 12 v i
theorem yv {B:Nat} {t:TypeId} {k:Nat} {xs l:List gB} {s v:gB} {w w':gA} (h: ∀j A r,iE md ops sp i j=ga->qY B t k xs l 13 14 12 v j=gq A->A.Φ r w->A.Φ r w'): ∀j A r,iE md ops sp i j=ga->tj B t k xs l s v j=gq A->A.Φ r w->A.Φ r w':=by
 intro j A r u g y;unfold tj at g;split at g;. cases g;trivial
 exact h j A r u g y
end
def lL (N M:Nat) (w:gA) (b:Nat):Prop:=b<w.heap.size/\b≠N/\b≠N+1/\b≠M/\b≠M+1
theorem lL.up {N M:Nat} {W':gA} {b:Nat} (h:lL N M W b) (g:W.heap.size<=W'.heap.size):lL N M W' b:=⟨by have:=h.1;omega,h.2⟩
structure mM (w:gA) (C PC:Array gB) (N M:Nat) (old:List Nd) (p:kq) (oo:Option Addr) (oc:Nat) (fo:Option Addr) (fc:Nat) (wo:Option Addr) (wc:Nat) (W:gA):Prop where
 xN:Bx W N C 33
 xR:Bx W (N+1) jW 33
 xP:Bx W (M+1) PC 174
 pl:pX (lL N M W) W oo oc fo fc wo wc old p
 below:gi w.heap.size w W
 sz:M+2<=W.heap.size
section
variable {w:gA} {C PC:Array gB} {N M:Nat} {old:List Nd} {p:kq} {oo fo wo:Option Addr} {oc fc wc:Nat} {W W':gA}
theorem mM.next (h:mM w C PC N M old p oo oc fo fc wo wc W) (g:gi W.heap.size W W'):mM w C PC N M old p oo oc fo fc wo wc W':=
 ⟨h.xN.gD g,h.xR.gD g,h.xP.gD g,(h.pl.keep (fun _ g=>g.1) g).up fun _ j=>j.up g.size,iq h.below g,jU h.sz g.size⟩
theorem mM.set (h:mM w C PC N M old p oo oc fo fc wo wc W) (g: ∀b,b≠M->W'.heap[b]?=W.heap[b]?) (r:W'.heap.size=W.heap.size) (k:gi w.heap.size w W') (s:N+1<M):mM w C PC N M old p oo oc fo fc wo wc W':=
 ⟨(g N oM).trans h.xN,(g _ oM).trans h.xR,(g _ oM).trans h.xP,h.pl.same (fun b j=>g b j.2.2.2.1) fun b j=>j.up oM,k,by rw[r];exact h.sz⟩
end
def Cw (r:Option (Option Nd×kq)) (rt:Int) (q:kq) (full:Bool):Prop:=match r with|none=>full=ga|some y=>full=gk/\rt=iA y.1/\q=y.2
def ov (t:Option Nd):List Nd:=match t with|none=>[]|some n=>n.je
theorem G4 (t:Option Nd):qG t=mr (ov t):=by cases t<;>rfl
theorem G5 (x:Ix) (v:gB) (l:List ju) (lo:Option Addr) (lc:Nat) (w:gA) (dI:kG w v x) (dr:jk lo l.length lc) (eG:l.length<=1000) (eJ:oI w lo l) (ey:x.gL.gH.length<=900000):
  gM gm 65 #[v, ht lo l.length lc] w (oV w (pY x l)):=by
 have e3:=dI;have e2:=dI.v;obtain⟨po,pc,co,cc,fo,fc,rfl,ei,eC,eA⟩:=dI;obtain⟨R,dn⟩:=nM (oV w (pY x l));rw[dn];have bD:=gF dn;obtain⟨N,dm⟩:=nM w.heap.size;obtain⟨W0,bH⟩:=nM ((w.alloc (hI (ib x.gL po co pc cc x.gI x.gJ x.gZ x.gN fo x.free.length fc) 33)).alloc (hI jW 33));have dg:gi w.heap.size w W0:=by subst bH;exact(Below.one w _).alloc oC _
 have ap:Bx W0 N (ib x.gL po co pc cc x.gI x.gJ x.gZ x.gN fo x.free.length fc) 33:=by subst bH dm;exact(Bx.new w _ _).alloc _
 have ag:Bx W0 (N+1) jW 33:=by subst bH dm;exact Bx.ir _ _ _ _ oC
 obtain⟨fT,b5⟩: ∃e:Int,(if n4 x=gd then 1 else 0)=e:=⟨_,rfl⟩;have ew:=yo x _ W0 (e2.below dg) b5;have cr:=gF ew;obtain⟨j,r⟩:=ap.c2;unfold ib at j bH;obtain⟨T,b6⟩:=nM x.free.length;rw[b6] at j bH;have a7:=gF (gK e3 (gK ei (gK eC eA)));have cq:=gF (gK dr (gK eJ ey));have aq:=gF (gK ap (gK ag (gK dg dm)));have aR:=gF b6;obtain⟨n,ds⟩:=nM l.length;have a':=gF ds;have fA:=(ox dr).1;rw[ds] at eG fA |-;unfold ib;rw[b6];clear e3 e2 ei eC eA dr eJ ey ew dn ap ag dg ds;go_enter func65,ntmps65;go_wp2_with fail;unfold ib at cr;rw[b6] at cr;refine cr.o.mono ?_;rintro e fa ⟨rfl,cF⟩;clear bH j r cr b6;have ap:=aq.o.1.gD cF;have ag:=aq.o.2.1.gD cF;have aF:=iq aq.o.2.2.1 cF;cases aA:n4 x with
 | none=>
  have aE:Hid (pY x l=(iY,1)):=gF (by unfold pY;rw[aA]);rw[aA,if_pos rfl] at b5;subst b5;clear aA ap;obtain⟨Wf,k⟩:=nM (jr fa (N+1) (gE ha 0) (ht gd 0 0) (ht gd 0 0) (gE ha 0) (gE ha 0) (gE ha 0) (gE ha 0) (gE ha 0) (ht gd 0 0));have aJ:=aq.o.2.2.2;have aD:Bx Wf (N+1) jW 33:=by subst k;exact ag.kh
  have aa:gi w.heap.size w Wf:=by subst k;exact mV aF oM
  have aV:=gF k;have bb:=gF aa;clear aa k aJ;obtain⟨bW,cg,bX⟩:=ag.c3;go_wp2;have aI:=aV.o;unfold jr lj at aI;rw[aI];have ar:=aD.cell;refine gj (v:= hG #[hF jW, gE ha 1]) (by simp[gy,gz,go_sem,ar]) rfl ?_;rw[<-bD.o,aE.o];exact⟨_,rfl,kG.zero _,bb.o⟩
 | some t=>
  rw[aA,if_neg oC] at b5;subst b5;have et:=a7.o.1.v.below aF;have bK:=N8 x _ l lo lc fa et aA cq.o.1 (by rw[a'.o];omega) (cq.o.2.1.below aF);rw[a'.o] at bK;obtain⟨bQ,av⟩:=nM (qZ t l);rw[av] at bK;unfold ib at bK;rw[aR.o] at bK;have c7:=gF bK;have bj:=gF aA;have c3:=gF av;clear aA bK av et;obtain⟨j,r⟩:=ap.c2;unfold ib at j;rw[aR.o] at j;cases dk:(bQ !=0);rotate_left;.
   have b9:bQ≠0:=by simpa using dk
   have aE:Hid (pY x l=(iY,bQ)):=gF (by
    have g:=c3.o;unfold qZ at g;unfold pY;rw[bj.o];simp only;split at g;. rename_i au;rw[if_pos au,g]
    .
     rename_i au;rw[if_neg au];split at g;. rename_i al;rw[if_pos al,g]
     . exact absurd g.symm b9)
   clear b9;go_wp2_with fail;refine c7.o.mono ?_;rintro e cj ⟨rfl,aG⟩;have ag:=ag.gD aG;have aF:=iq aF aG;clear j r ap;obtain⟨Wf,k⟩:=nM (jr cj (N+1) (gE ha 0) (ht gd 0 0) (ht gd 0 0) (gE ha 0) (gE ha 0) (gE ha 0) (gE ha 0) (gE ha 0) (ht gd 0 0));have aJ:=aq.o.2.2.2;have aD:Bx Wf (N+1) jW 33:=by subst k;exact ag.kh
   have aa:gi w.heap.size w Wf:=by subst k;exact mV aF oM
   have aV:=gF k;have bb:=gF aa;clear aa k aJ;obtain⟨bW,cg,bX⟩:=ag.c3;go_wp2;have aI:=aV.o;unfold jr lj at aI;rw[aI];have ar:=aD.cell;refine gj (v:= hG #[hF jW, gE ha bQ]) (by simp[gy,gz,go_sem,ar]) rfl ?_;rw[<-bD.o,aE.o];exact⟨_,rfl,kG.zero _,bb.o⟩
  obtain rfl:bQ=0:=by simpa using dk
  clear dk;have eM:iD gd l=0/\l.any (rk (jz t))=false:=by have g:=c3.o;unfold qZ at g;split at g;rename_i au;exact absurd g au;rename_i au;split at g;cases g;rename_i al;exact⟨by simpa using au,by simpa using al⟩
  have aW:=gF eM;clear eM c3;go_wp2_with fail;refine c7.o.mono ?_;rintro e cj ⟨rfl,aG⟩;have c1:=ap.gD aG;have aP:=ag.gD aG;have bd:=iq aF aG;clear j r ap ag aF c7;obtain⟨j,r⟩:=c1.c2;unfold ib at j;rw[aR.o] at j
  by_cases eK:n=0
  .
   subst eK;have eH:l=[]:=List.eq_nil_of_length_eq_zero a'.o;have aE:Hid (pY x l=(x,0)):=gF (by
    unfold pY;rw[bj.o];simp only;rw[if_neg (by rw[aW.o.1];decide),if_neg (by rw[aW.o.2];decide),if_pos eH])
   obtain⟨Wf,k⟩:=nM (jr cj (N+1) (gE ha x.gL.size) (ht po x.gL.gG.length pc) (ht co x.gL.gH.length cc) (gE ha x.gL.left) (gE ha x.gI) (gE ha x.gJ) (gE ha x.gZ) (gE ha x.gN) (ht fo T fc));have aJ:=aq.o.2.2.2;have aD:Bx Wf (N+1) (ib x.gL po co pc cc x.gI x.gJ x.gZ x.gN fo T fc) 33:=by subst k;exact aP.kh
   have aa:gi w.heap.size w Wf:=by subst k;exact mV bd oM
   have aV:=gF k;have bb:=gF aa;obtain⟨bW,cg,bX⟩:=aP.c3;clear aa k aJ c1 aP bd eH aG;go_wp2;have aI:=aV.o;unfold jr lj at aI;rw[aI];have ar:=aD.cell;unfold ib at ar;refine gj (v:= hG #[hF (ib x.gL po co pc cc x.gI x.gJ x.gZ x.gN fo T fc), gE ha 0]) (by simp[gy,gz,go_sem,ar,ib]) rfl ?_;rw[<-bD.o,aE.o, <-aR.o];exact⟨_,rfl,a7.o.1.below bb.o,bb.o⟩
  have f2:((n:Int)==0)=false:=oN
  have ep:=OM bj.o aW.o.1 (by rw[a'.o];exact eG);have cM:=GP x _ cj (a7.o.1.v.below bd) bj.o;unfold ib at cM;rw[aR.o] at cM;have aU:=gF ep;have d4:=gF cM;have eI:l≠[]:=fun e=>by rw[e] at a';exact eK a'.o.symm
  have c5:=gF eI;clear ep cM eI;go_wp2_with fail;refine d4.o.mono ?_;rintro e cY ⟨cH,s,ac,u,y,ad,B,ae,rfl,dt,cL⟩;have dO:=c1.gD cH;have dP:=aP.gD cH;have di:=iq bd cH;have fI:N+1<cj.heap.size:=aP.lt;clear j r c1 aP aG d4;obtain⟨j,r⟩:=dO.c2;unfold ib at j;rw[aR.o] at j;go_upto_region 10 with fail
  obtain⟨M,b0⟩:=nM cY.heap.size;obtain⟨w4,bM⟩:=nM ((cY.alloc (hI #[ht s ac u, ht y ad B, gE ha ae] 95)).alloc (hI #[ht gd 0 0, ht fo T fc, ht gd 0 0, hE gk] 174));have bI:gi cY.heap.size cY w4:=by rw[<-bM];exact(Below.one _ _).alloc oC _
  have ck:Bx w4 M #[ht s ac u, ht y ad B, gE ha ae] 95:=by rw[<-bM, <-b0];exact(Bx.new _ _ _).alloc _
  have fe:Bx w4 (M+1) #[ht gd 0 0, ht fo T fc, ht gd 0 0, hE gk] 174:=by rw[<-bM];exact Bx.ir _ _ _ _ (by simp[b0])
  have cQ:w4.heap.size=M+2:=by rw[<-bM, <-b0];simp
  rw[bM,b0];have aJ:=aq.o.2.2.2;have bE:N+1<M:=by have:=dP.lt;omega
  have cC:il s u y B (Nd.nr t)=[ht s ac u, ht y ad B, gE ha ae]:=by
   cases t with
   | none=>obtain⟨rfl,rfl,rfl,rfl,rfl,rfl,rfl⟩:=dt rfl;rfl
   | some aB=>obtain⟨rfl,rfl,rfl,-⟩:=cL aB rfl;rfl
  have eo:jf (lL N M w4) w4 [ht s ac u, ht y ad B, gE ha ae] (Nd.nr t):=by
   rw[<-cC];cases t with
   | none=>obtain⟨rfl,rfl,rfl,rfl,rfl,rfl,rfl⟩:=dt rfl;exact jf.of 0 (.inl ⟨rfl,rfl,rfl⟩) (gO.nil _ _ _) (.inl ⟨rfl,rfl,rfl⟩) (jw.nil _ _ _)
   | some aB=>obtain⟨-,-,-,g⟩:=cL aB rfl;exact(g.keep (fun b h=>h.2) bI).up fun b h=>⟨oM,oM,oM,oM,oM⟩
  have eB:gO (lL N M w4) w4 fo (x.free.map (.int .i64)):=by have fw:=iq di bI;exact(((a7.o.2.2.2.at).row.same' fun b h=>fw.block b h)).mono fun b h=>⟨oM,oM,oM,oM,oM⟩
  have eq:mM w (ib x.gL po co pc cc x.gI x.gJ x.gZ x.gN fo x.free.length fc) #[ht gd 0 0, ht fo T fc, ht gd 0 0, hE gk] N M [] ⟨x.free,[]⟩ gd 0 fo fc gd 0 w4:=
   ⟨dO.gD bI,dP.gD bI,fe,⟨.inl ⟨rfl,rfl,rfl⟩,jw.nil _ _ _,a7.o.2.2.1,eB, .inl ⟨rfl,rfl,rfl⟩,gO.nil _ _ _⟩,iq di bI,oM⟩
  obtain⟨ol,b'⟩:=nM ((ov t).length);have a6:=gF (gK cC (gK eo eq));have ba:=gF (gK b' (gK bE cQ));have fl:=gF cL;have fk:=gF cC;have fD:=ck.lt;clear j r dO dP di cH bd cF bM bI eo eq eB cC cQ fI dt cL b' fe b0
  go_upto_if 39 with fail
  go_cut [8] (fun fQ aO=> ∃(oo:Option Addr) (oc:Nat),fQ= hE t.isSome/\Bx aO M #[ht s ac u, ht y ad B, gE ha ae] 95/\Hid (jf (lL N M aO) aO [ht s ac u, ht y ad B, gE ha ae] (Nd.nr t)/\mM w (ib x.gL po co pc cc x.gI x.gJ x.gZ x.gN fo x.free.length fc) #[ht oo ol oc, ht fo T fc, ht gd 0 0, hE gk] N M (ov t) ⟨x.free,[]⟩ oo oc fo fc gd 0 aO))
  case first=>
   cases t with
   | none=>
    simp only[hz];go_wp2_with fail
    go_meet
    refine⟨gd,0,rfl,ck,gF ⟨a6.o.2.1,?_⟩⟩;have g:=a6.o.2.2;obtain rfl:0=ol:=ba.o.1;exact g
   | some aB=>
    simp only[hy];have b8:=N1 aB s y u B w4 (S:=lL N M w4) (fun b h=>h.1) (by have:=a6.o.2.1;rw[<-a6.o.1] at this;exact this) (by have:=aU.o.few aB rfl;omega);have ay:il s u y B aB=[ht s ac u, ht y ad B, gE ha ae]:=a6.o.1;have b':aB.je.length=ol:=ba.o.1;rw[ay] at b8;unfold oq at b8;rw[b'] at b8;have fp:=gF b8;clear b8 ay b';obtain⟨j,r⟩:=ck.c2;go_wp2_with fail;refine fp.o.mono ?_;rintro e aC ⟨am,oo,oc,rfl,eU,en⟩;have X:=a6.o.2.2.next am;have bN:=am.size;obtain⟨w6,aw⟩:=nM (aC.setCell ⟨M+1,0,gd⟩ (ht oo ol oc));have br: ∀b,b≠M+1->w6.heap[b]?=aC.heap[b]?:=fun b h=>by rw[<-aw];exact Below.heap_setCell _ ⟨M+1,0,gd⟩ _ _ h
    have fL:w6.heap.size=aC.heap.size:=by rw[<-aw];simp
    have bE:=ba.o.2.1;have cQ:=ba.o.2.2;have ef:gi w.heap.size w w6:=by rw[<-aw];exact iT X.below oM
    have fh:Bx w6 (M+1) #[ht oo ol oc, ht fo T fc, ht gd 0 0, hE gk] 174:=by rw[<-aw];simpa using X.xP.set 0 (ht oo ol oc)
    obtain⟨bc,be,eb⟩:=X.xP.c3;have a5:Hid (Bx w6 M #[ht s ac u, ht y ad B, gE ha ae] 95/\jf (lL N M w6) w6 [ht s ac u, ht y ad B, gE ha ae] (Nd.nr (gq aB))/\mM w (ib x.gL po co pc cc x.gI x.gJ x.gZ x.gN fo x.free.length fc) #[ht oo ol oc, ht fo T fc, ht gd 0 0, hE gk] N M (ov (gq aB)) ⟨x.free,[]⟩ oo oc fo fc gd 0 w6):=by
     have fx: ∀b,lL N M w4 b->w6.heap[b]?=aC.heap[b]?:=fun b h=>br b h.2.2.2.2;have fy: ∀b,lL N M aC b->w6.heap[b]?=aC.heap[b]?:=fun b h=>br b h.2.2.2.2;have es: ∀b,lL N M aC b->lL N M w6 b:=fun b h=>h.up oM;refine gF ⟨(br _ oM).trans (ck.gD am),((a6.o.2.1.keep (fun b h=>h.1) am).same fx fun b h=>es b (h.up bN)),⟨(br _ oM).trans X.xN,(br _ oM).trans X.xR,fh,⟨by rw[show(ov (gq aB)).length=ol from ba.o.1];exact eU,(en.same fun b h=>br b (by
      rcases h with g|g;. exact g.2.2.2.2
      .
       omega)).up fun b h=>by
       rcases h with g|g;. exact g.up oM
       . exact⟨oM,oM,oM,oM,oM⟩,X.pl.fs,(X.pl.fr.same' fy).mono es,X.pl.ws,gO.nil _ _ _⟩,ef,oM⟩⟩
    have bT:=gF aw;clear X bN aw br fL bE cQ ef fh eU en am j r;go_wp2_with fail;rw[bT.o]
    go_meet
    exact⟨oo,oc,rfl,a5.o.1,gF a5.o.2⟩
  case rest=>
  obtain⟨oo,oc,rfl,dL,bi⟩:=hcut;obtain⟨f',e1⟩:=nM wc;rw[e1] at dL bi |-;have cn:=gF (gK dL bi);have bE:=ba.o.2.1;clear ck dL bi a6 fl fD e1;go_wp2_with fail
  go_loopw [8,10] (fun is i wr=> ∃(ao:Nat) (o:Option Nd) (s:Option Addr) (ac u:Nat) (y:Option Addr) (ad B:Nat) (ae:Int),ao<=n/\i= gE ha ao/\is= hE o.isSome/\Bx wr M #[ht s ac u, ht y ad B, gE ha ae] 95/\
   Hid (o=(l.take ao).foldl j6 t/\il s u y B (Nd.nr o)=[ht s ac u, ht y ad B, gE ha ae]/\jf (lL N M wr) wr [ht s ac u, ht y ad B, gE ha ae] (Nd.nr o)/\
    mM w (ib x.gL po co pc cc x.gI x.gJ x.gZ x.gN fo x.free.length fc) #[ht oo ol oc, ht fo T fc, ht gd 0 0, hE gk] N M (ov t) ⟨x.free,[]⟩ oo oc fo fc gd 0 wr)) (fun _ i _=>n - (intOf i).toNat)
  case atStart=>exact⟨0,t,s,ac,u,y,ad,B,ae,hn _,rfl,rfl,cn.o.1,gF ⟨rfl,fk.o,cn.o.2.o.1,cn.o.2.o.2⟩⟩
  case round=>
   obtain⟨ao,o,s,ac,u,y,ad,B,ae,f1,rfl,rfl,c0,cp⟩:=hrel;obtain⟨j,r⟩:=c0.c2
   by_cases fE:ao<n
   .
    have dq:ao<l.length:=by rw[a'.o];exact fE
    obtain⟨Y,av,bF,aS⟩:=cp.o;have bZ:=aS.below;obtain⟨ed,f4,rfl,bp,cu,c8,cv,c9,cw⟩:=(cq.o.2.1).cell dq;have dB:(l.take (ao+1)).foldl j6 t=j6 o l[ao]:=by rw[List.take_succ_eq_append_getElem dq,List.foldl_append, <-Y];rfl
    obtain⟨c,hc⟩:=nM (l[ao]);rw[hc] at cu c8 cv c9 cw dB;obtain⟨bt,fY,old,fz,cU⟩:=c;simp only at cu c8 cv c9 cw;have d8:=(bZ.cell bp).trans cu;have d9:=(bZ.cell bp).trans cv;have d':=(bZ.cell bp).trans cw;have fV:ed<wr.heap.size:=iU bp bZ.size;have aJ:=aq.o.2.2.2;have fZ:ed≠M:=oM
    have bL:nW o:=by rw[Y];exact aU.o.tm ao
    have dy:=fun(E:jv wr)=>OJ o (bt,cU) s y u B E.w (S:=lL N M wr) (fun b h=>iU h.1 E.h.size) (by rw[av];exact bF.keep (fun b h=>h.1) E.h) bL;have dH:=fun(E:jv wr)=>NY o bt s y u B E.w (S:=lL N M wr) (fun b h=>iU h.1 E.h.size) (by rw[av];exact bF.keep (fun b h=>h.1) E.h) bL;simp only[av] at dy dH;have d2:=gF dy;have d6:=gF dH;have dW:Hid (∀(E:jv wr) b,lL N M wr b->b<E.w.heap.size):=gF fun E b h=>iU h.1 E.h.size;have d3:=gF dB;have ab:=gF (gK aS c0);clear dy dH dB hc cu c8 cv c9 cw Y av bF aS bZ bL bp dq cp;have cy:=jv.cells wr;cases fz with
    | true=>
     have bR:Hid ((l.take (ao+1)).foldl j6 t=gq (ku o (bt,cU))):=gF (by rw[d3.o];rfl);obtain⟨m,b7⟩:=nM (ku o (bt,cU));rw[b7] at d2 bR;clear b7;go_upto_region 16 with fail
     refine pS 14 2 #[ga,ga,ga,ga,ga,ga,ga,ga,ga,ga,ga,ga,ga,ga,gk,gk] (fun i=>if i=12 then gq (iw (hF #[hA bt, hA cU])) else if i=13 then gq (rY (lL N M wr) m) else gd) oP oO oO oP ?_;simp only[gl,gu];refine LW.b 12 12 ?_;simp only[jC];repeat (go_big_quiet_step (fail))
     refine gh ?_;refine LW.z ?_ ?_;intro ah _;exact pC ((by go_simp));intro _;simp only[gn,gU]
     (try simp only[iw])
     refine LW.z ?_ ?_;. intro ah _;unfold ix;go_simp;exact yr (dW.o _) (d2.o _)
     intro Z;simp only[gn,gU,rY];refine LW.done ?_;intro aC U;obtain⟨H,J,I,L,⟨bw,bz,bA⟩,bq⟩:=(U.get 13 rfl rfl:(rY (lL N M wr) m).Φ Z aC);obtain⟨ai,bm⟩:=nM m.ps.length;obtain⟨aj,bn⟩:=nM m.gC.length;obtain⟨ak,bo⟩:=nM m.page;have ay:il H J I L m=[ht H ai J, ht I aj L, gE ha ak]:=by unfold il;rw[bm,bn,bo]
     rw[bm] at bw;rw[bn] at bz;rw[bo] at bA;rw[ay] at bq;simp only[bw,bz,bA];have dz:=U.range 13 Z rfl;have am:=U.below;have bB:=ab.o.2.gD am;have X:=ab.o.1.next am;have F:=mQ bB (ht H ai J) (ht I aj L) (gE ha ak) X.below (by have:=aq.o.2.2.2;omega);obtain⟨w6,aw⟩:=nM (((aC.setCell ⟨M,0,gd⟩ (ht H ai J)).setCell ⟨M,1,gd⟩ (ht I aj L)).setCell ⟨M,2,gd⟩ (gE ha ak));rw[aw] at F;have bN:=am.size;have cd:=ab.o.1.sz;have dR:=F.size;have a5:Hid (Bx w6 M #[ht H ai J, ht I aj L, gE ha ak] 95/\il H J I L m=[ht H ai J, ht I aj L, gE ha ak]/\jf (lL N M w6) w6 [ht H ai J, ht I aj L, gE ha ak] m/\mM w (ib x.gL po co pc cc x.gI x.gJ x.gZ x.gN fo x.free.length fc) #[ht oo ol oc, ht fo T fc, ht gd 0 0, hE gk] N M (ov t) ⟨x.free,[]⟩ oo oc fo fc gd 0 w6):=gF ⟨F.box,ay,bq.same (fun b h=>F.same b (by
       rcases h with g|g;. exact g.2.2.2.1
       .
        omega)) fun b h=>by
        rcases h with g|g;. exact g.up oM
        . exact⟨oM,oM,oM,oM,oM⟩,X.set F.same F.size F.below bE⟩
     have bT:=gF aw;clear j r d8 d9 d' cy;obtain⟨j,r,bY⟩:=bB.c3;clear bm bn bo ay bw bz bA bq dz am bB X F aw bN cd dR U;refine iG 14 fun K hK=>?_;go_simp;refine hK _ _ ?_;clear hK K;rw[bT.o];refine iG 15 fun K hK=>?_;go_simp;refine hK _ _ ?_;clear hK K;refine kS ?_;clear j r bY;go_wp2_with fail;go_roundw;case rel=>exact⟨ao+1,gq m,H,ai,J,I,aj,L,ak,oM,oQ,rfl,a5.o.1,gF ⟨bR.o.symm,a5.o.2⟩⟩
     case measure=>simp[intOf];omega
    | false=>
     have bR:Hid ((l.take (ao+1)).foldl j6 t=jx o bt):=gF (by rw[d3.o];rfl);obtain⟨a1,eL⟩:=nM (jx o bt);rw[eL] at d6 bR;clear eL;go_upto_region 17 with fail
     refine sf 10 9 2 #[ga,ga,ga,ga,ga,ga,ga,ga,ga,gk,gk,gk] #[ga,ga,ga,ga,ga,ga,ga,ga,ga,ga,gk,gk] (fun i=>if i=6 then gq (rZ (lL N M wr) a1) else gd) _ oP rfl oO oO oP oO rfl (fun _ _ _ _ g=>g) (sg _ _ rfl) ?_;simp only[gl,gu];refine LW.b 6 6 ?_;simp only[jC];repeat (go_big_quiet_step (fail))
     refine gh ?_;refine LW.z ?_ ?_;. intro ah _;unfold ix;go_simp;exact yt (dW.o _) (d6.o _)
     intro Z;simp only[gn,gU,rZ];refine LW.b 3 10 ?_;simp only[jC];repeat (go_big_quiet_step (fail))
     refine gh ?_;refine LW.done ?_;intro aC U;obtain⟨H,J,I,L,⟨bw,bz,bA⟩,bq⟩:=(U.get 6 rfl rfl:(rZ (lL N M wr) a1).Φ Z aC);obtain⟨ai,bm⟩:=nM ((Nd.nr a1).ps.length);obtain⟨aj,bn⟩:=nM ((Nd.nr a1).gC.length);obtain⟨ak,bo⟩:=nM ((Nd.nr a1).page);have ay:il H J I L (Nd.nr a1)=[ht H ai J, ht I aj L, gE ha ak]:=by unfold il;rw[bm,bn,bo]
     rw[bm] at bw;rw[bn] at bz;rw[bo] at bA;rw[ay] at bq;simp only[bw,bz,bA];have dz:=U.range 6 Z rfl;have am:=U.below;have bB:=ab.o.2.gD am;have X:=ab.o.1.next am;have F:=mQ bB (ht H ai J) (ht I aj L) (gE ha ak) X.below (by have:=aq.o.2.2.2;omega);obtain⟨w6,aw⟩:=nM (((aC.setCell ⟨M,0,gd⟩ (ht H ai J)).setCell ⟨M,1,gd⟩ (ht I aj L)).setCell ⟨M,2,gd⟩ (gE ha ak));rw[aw] at F;have bN:=am.size;have cd:=ab.o.1.sz;have dR:=F.size;have a5:Hid (Bx w6 M #[ht H ai J, ht I aj L, gE ha ak] 95/\il H J I L (Nd.nr a1)=[ht H ai J, ht I aj L, gE ha ak]/\jf (lL N M w6) w6 [ht H ai J, ht I aj L, gE ha ak] (Nd.nr a1)/\mM w (ib x.gL po co pc cc x.gI x.gJ x.gZ x.gN fo x.free.length fc) #[ht oo ol oc, ht fo T fc, ht gd 0 0, hE gk] N M (ov t) ⟨x.free,[]⟩ oo oc fo fc gd 0 w6):=gF ⟨F.box,ay,bq.same (fun b h=>F.same b (by
       rcases h with g|g;. exact g.2.2.2.1
       .
        omega)) fun b h=>by
        rcases h with g|g;. exact g.up oM
        . exact⟨oM,oM,oM,oM,oM⟩,X.set F.same F.size F.below bE⟩
     have bT:=gF aw;clear j r d8 d9 d' cy;obtain⟨j,r,bY⟩:=bB.c3;clear bm bn bo ay bw bz bA bq dz am bB X F aw bN cd dR U;refine iG 10 fun K hK=>?_;go_simp;refine hK _ _ ?_;clear hK K;rw[bT.o];refine iG 11 fun K hK=>?_;go_simp;refine hK _ _ ?_;clear hK K;refine kS ?_;clear j r bY;go_wp2_with fail;go_roundw;case rel=>exact⟨ao+1,a1,H,ai,J,I,aj,L,ak,oM,oQ,rfl,a5.o.1,gF ⟨bR.o.symm,a5.o.2⟩⟩
     case measure=>simp[intOf];omega
   obtain rfl:ao=n:=oM
   obtain⟨Y,av,bF,aS⟩:=cp.o;rw[List.take_of_length_le (by rw[a'.o];exact hD _)] at Y;have bL:nW o:=by have:=aU.o.tm l.length;rw[hl, <-Y] at this;exact this
   have bJ:=aU.o.len l.length;rw[hl, <-Y] at bJ;have dV:=gF (gK Y (gK bL bJ));have ab:=gF (gK aS (gK bF av));clear bF av cp bL bJ
   go_upto_if 78 with fail
   go_cut [11] (fun fP aO=> ∃(a3 aZ ax:Option Addr) (a2 aY aH e8 ec af:Nat) (q:kq) (cz:Bool) (O:Int),fP= gE ha O/\Bx aO (M+1) #[ht a3 e8 a2, ht aZ ec aY, ht ax af aH, hE cz] 174/\
    Hid (Cw (lR x t l) O q cz/\q.ws.length=af/\Bx aO N (ib x.gL po co pc cc x.gI x.gJ x.gZ x.gN fo x.free.length fc) 33/\Bx aO (N+1) jW 33/\jk ax af aH/\gO (· <aO.heap.size) aO ax (mi q.ws)/\gi w.heap.size w aO))
   case first=>
    cases o with
    | none=>
     simp only[hz];have az:lR x t l=gq (gd,⟨x.free,[]⟩):=by unfold lR;rw[<-Y]
     have aX:=gF az;clear Y az;have aS:=ab.o.1;go_wp2_with fail
     go_meet
     refine⟨oo,fo,gd,oc,fc,0,ol,T,0,⟨x.free,[]⟩,gk,0,rfl,aS.xP,gF ⟨?_,rfl,aS.xN,aS.xR, .inl ⟨rfl,rfl,rfl⟩,gO.nil _ _ _,aS.below⟩⟩;rw[aX.o];exact⟨rfl,rfl,rfl⟩
    | some bu=>
     simp only[hy];have az:lR x t l=(l7 (mr (ov t)) bu ⟨x.free,[]⟩).map fun E=>(gq E.1,E.2):=by unfold lR;rw[<-Y,G4]
     obtain⟨⟨f0,dJ⟩,-⟩:=dV.o.2.1 bu rfl;have fB:=dJ.cnt1;have bJ:=dV.o.2.2;have fG:bu.iv.length<=7000:=bJ;have dA:=dJ.qN oF oF;have dx:=aU.o.uA;rw[G4] at dx;have df:qx (mr (ov t)) bu ⟨x.free,[]⟩:=⟨dA,dx,by simp only[gx];omega⟩;have b3:=NQ (look:=mr (ov t)) (old:=ov t) rfl (fun m b7=>by
      cases t with
      | none=>cases b7
      | some aB=>exact aU.o.old aB rfl m b7) bu gk ⟨x.free,[]⟩ s y u B oo fo gd oc fc 0 wr (S:=lL N M wr) (fun b h=>h.1) (by have:=ab.o.2.1;rw[<-ab.o.2.2] at this;exact this) ab.o.1.pl dA (fun _=>df)
     have av:il s u y B bu=[ht s ac u, ht y ad B, gE ha ae]:=ab.o.2.2;rw[av] at b3;unfold rU at b3;simp only[ba.o.1,aR.o,gx,hL,if_false] at b3;have dZ:=gF b3;have aX:=gF (gK az df);obtain⟨bc,be⟩:=ab.o.1.xP.c2;clear Y az dJ fB bJ fG dA dx df b3 av;go_wp2_with fail;refine dZ.o.mono ?_;rintro e dK ⟨cI,cT,q,np,ci,ch,cf,ce,a3,a2,aZ,aY,ax,aH,rfl,aA,fF,dv⟩;obtain⟨cs,ek⟩:=nM cT.ps.length;obtain⟨ct,el⟩:=nM cT.gC.length;obtain⟨bk,dl⟩:=nM cT.page;obtain⟨bU,em⟩:=nM q.free.length;obtain⟨bl,cE⟩:=nM q.ws.length;have ay:il ci ch cf ce cT=[ht ci cs ch, ht cf ct ce, gE ha bk]:=by unfold il;rw[ek,el,dl]
     have eN:rU a3 a2 aZ aY ax aH (ov t) q np=[ht a3 ol a2, ht aZ bU aY, ht ax bl aH, hE np]:=by unfold rU;rw[ba.o.1,em,cE]
     rw[ay,eN];have bG:=ab.o.1.next cI;have dM:=c0.gD cI;have fM:=cI.size;have cd:=ab.o.1.sz;have aJ:=aq.o.2.2.2;have bf:=mQ dM (ht ci cs ch) (ht cf ct ce) (gE ha bk) bG.below oM;obtain⟨fd,dF⟩:=nM (((dK.setCell ⟨M,0,gd⟩ (ht ci cs ch)).setCell ⟨M,1,gd⟩ (ht cf ct ce)).setCell ⟨M,2,gd⟩ (gE ha bk));rw[dF] at bf;have fi:Bx fd (M+1) #[ht oo ol oc, ht fo T fc, ht gd 0 0, hE gk] 174:=(bf.same _ oM).trans bG.xP;have bg:=qX fi (ht a3 ol a2) (ht aZ bU aY) (ht ax bl aH) (hE np) bf.below oM;obtain⟨a4,dE⟩:=nM ((((fd.setCell ⟨M+1,0,gd⟩ (ht a3 ol a2)).setCell ⟨M+1,1,gd⟩ (ht aZ bU aY)).setCell ⟨M+1,2,gd⟩ (ht ax bl aH)).setCell ⟨M+1,3,gd⟩ (hE np));rw[dE] at bg;have fK:a4.heap.size=dK.heap.size:=bg.size.trans bf.size;have cb: ∀b,b≠M->b≠M+1->a4.heap[b]?=dK.heap[b]?:=fun b au al=>(bg.same b al).trans (bf.same b au);have aK:Cw (lR x t l) bk q np:=by
      rw[aX.o.1];cases eP:l7 (mr (ov t)) bu ⟨x.free,[]⟩ with
      | none=>rw[eP] at aA;exact aA
      | some E=>rw[eP] at aA;obtain⟨au,al,de⟩:=aA;refine⟨au,?_,de⟩;rw[<-dl,al];rfl
     have dS:Hid (Bx a4 (M+1) #[ht a3 ol a2, ht aZ bU aY, ht ax bl aH, hE np] 174/\Cw (lR x t l) bk q np/\q.ws.length=bl/\Bx a4 N (ib x.gL po co pc cc x.gI x.gJ x.gZ x.gN fo x.free.length fc) 33/\Bx a4 (N+1) jW 33/\jk ax bl aH/\gO (· <a4.heap.size) a4 ax (mi q.ws)/\gi w.heap.size w a4):=
      gF ⟨bg.box,aK,cE,(cb _ oM oM).trans bG.xN,(cb _ oM oM).trans bG.xR,by have:=dv.ws;rw[cE] at this;exact this,(dv.wr.same' fun b h=>by
       rcases h with g|g;. exact cb b g.2.2.2.1 g.2.2.2.2
       .
        exact cb b oM oM).mono fun b h=>by
        rcases h with g|g;. have:=g.1;omega
        . omega,bg.below⟩
     have fR:Bx a4 M #[ht ci cs ch, ht cf ct ce, gE ha bk] 95:=(bg.same _ oM).trans bf.box;have d5:=gF (gK dF dE);clear j r bc be;obtain⟨j,r,bY⟩:=dM.c3;obtain⟨bc,be,eb⟩:=bG.xP.c3;have fW:M≠M+1:=oM
     have fX:M+1≠M:=oM
     clear ek el dl em cE ay eN bG fM cd aJ bf dF fi bg dE fK cb aK aA fF dv cI dM dZ;go_upto_region 21 with fail
     rw[d5.o.1,d5.o.2];clear j r bY bc be eb;obtain⟨j,r⟩:=fR.c2;go_wp2_with fail
     go_meet
     exact⟨a3,aZ,ax,a2,aY,aH,ol,bU,bl,q,np,bk,rfl,dS.o.1,gF dS.o.2⟩
   case rest=>
   obtain⟨a3,aZ,ax,a2,aY,aH,e8,ec,af,q,cz,O,rfl,bP,bi⟩:=hcut;obtain⟨bO,e0⟩:=nM wc;rw[e0] at bP bi |-;obtain⟨aK,cK,ap,ag,cO,cN,aF⟩:=bi.o;obtain⟨bc,be⟩:=bP.c2;obtain⟨j,r⟩:=ap.c2;unfold ib at j;rw[aR.o] at j;clear e0 bi c0 ab cn;cases cz
   case' true=>
    have aE:Hid (pY x l=(iY,17)):=gF (by
     unfold pY;rw[bj.o];simp only;rw[if_neg (by rw[aW.o.1];decide),if_neg (by rw[aW.o.2];decide),if_neg c5.o];cases az:lR x t l with
     | none=>rfl
     | some E=>rw[az] at aK;cases aK.1)
    clear aK cK cO cN ap bP
   rotate_left
   case' false=>
    obtain⟨nt,az⟩: ∃nt,lR x t l=gq (nt,q)/\O=iA nt:=by
     cases az:lR x t l with
     | none=>rw[az] at aK;cases aK
     | some E=>rw[az] at aK;obtain⟨-,al,rfl⟩:=aK;exact⟨E.1,rfl,al⟩
    have aX:=gF az;clear aK az
    by_cases eX:(1099511627776:Int)<=x.gZ
    focus
     have aE:Hid (pY x l=(iY,17)):=gF (by
      unfold pY;rw[bj.o];simp only;rw[if_neg (by rw[aW.o.1];decide),if_neg (by rw[aW.o.2];decide),if_neg c5.o,aX.o.1];simp only;rw[if_pos eX])
     clear cK cO cN ap bP
    rotate_left;.
     have dT:Hid (∀D er,gR x.gL (n5 x q.ws O)=(D,er)->pY x l=if er≠0 then ({ x with gL:=D },er) else jF D x.gI x.gJ):=gF (fun D er g=>by unfold pY;rw[bj.o];simp only;rw[if_neg (by rw[aW.o.1];decide),if_neg (by rw[aW.o.2];decide),if_neg c5.o,aX.o.1];simp only;rw[if_neg eX, <-aX.o.2,g])
     have bh:=gF (gK ap (gK ag (gK cO (gK cN (gK aF cK)))));clear ag cO cN aF cK ap;have a0:=OO aU.o aX.o.1;rw[<-aX.o.2] at a0;have fH:=aU.o.gZ;have fC:=aU.o.gI;obtain⟨aT,dD⟩:=nM (x.gZ+1);have fq:Hid (wrap64 (x.gZ+1)=aT):=gF (by rw[hj _ oM,dD]);have eO:wrap64 (x.gI+aT.tmod 2)=x.gI+aT.tmod 2:=hj _ (by
      have:=hr (show(0:Int)<=aT by omega) (b:=2)
      omega)
     obtain⟨aQ,cD⟩:=nM (bs (jd 512 aT.toNat O.toNat));have eD: ∀W,gM gm 52 #[gE ha aT, gE ha O] W fun e w'=>e= .returned (hA aQ)/\gi W.heap.size W w':=fun W=>by have:=yT aT.toNat O.toNat W;rw[show((aT.toNat:Nat):Int)=aT by omega,show((O.toNat:Nat):Int)=O by omega,cD] at this;exact this
     obtain⟨bv,dw⟩:=nM (x.gI+aT.tmod 2);have eE:qQ x O=⟨bv,aQ⟩:=by unfold qQ;rw[dD,dw,cD]
     have ej:aQ.size<=1000:=by rw[<-cD,lM];simp[jd,jh]
     have f3:af<=7000:=by have:=bh.o.2.2.2.2.2;omega
     have bS:=gF (gK (eO.trans dw) (gK eE (gK ej a0.2.2.2)));have fn:=gF eD;have c6:=gF bh.o.2.2.2.2.2;clear eO dw eE ej a0 eD cD fH fC;clear dD;go_upto_region 25 with fail
     rw[fq.o];have cy:=jv.cells bO;obtain⟨e4,eF,eQ,eR,eS⟩:=info_parts tz;have a9:=gF (gK eF (gK eQ (gK eR eS)));clear eF eQ eR eS;refine Ch 15 1 #[ga,ga,ga,ga,ga,ga,ga,ga,ga,ga,ga,ga,ga,ga,ga,gk] (vB 13 14) (tj bO.heap.size 80 af (mi q.ws) [gE ha bv, hA aQ] (hA aQ) (hF #[gE ha bv, hA aQ])) oP oO oO oP ?_;simp only[gl,gu];refine l4.mC _ oO oO ?_ ?_;. intro ah hf;unfold ix;go_simp;exact Gw ah (yv (uB (.inl oP) (.inl oP) (.inl oP) oP))
     intro e9;simp only[gn,gU,qd];refine l4.block 2 3 oO oP oP ?_;simp only[jC];repeat (go_big_quiet_step (fail))
     refine gh ?_;refine l4.mC _ oO oO ?_ ?_;intro ah hf;have fu:ah.w.ownsRow bO.heap.size 80 2 (.slice (gq ⟨e9.lo,0,gd⟩) 0 0) 0 []:=(hf 0 oP).get rfl rfl;exact xr (.tmp 98) (.tmp 100) 23 rfl 80 e4 _ 2 24 hM a9.o.1 a9.o.2.1 a9.o.2.2.1 a9.o.2.2.2 rfl oF ah (.slice (gq ⟨e9.lo,0,gd⟩) 0 0) 0 [] rfl fu ax af aH (mi q.ws) rfl bh.o.2.2.1.nil (by rw[wM,c6.o]) (fun b g=>g) bh.o.2.2.2.1 (yE _) (by unfold maxLen;omega) oM fun w' bp=>yv (uB (.inl oP) (.inl oP) (.inl oP) oP);intro cW;simp only[gn,gU,kf];refine l4.block 7 11 oO oP oP ?_;simp only[jC];repeat (go_big_quiet_step (fail))
     refine gh ?_;refine l4.mC _ oO oO ?_ ?_;. intro ah hf;unfold ix;go_simp;exact OP ah.h.size (fn.o _) fun w' h=>yv (uB (.inl oP) (.inr fun fO g=>nD g h) (.inl oP) oP)
     intro f5;simp only[gn,gU,iw];refine l4.mC _ oO oO ?_ ?_;intro ah hf;exact Gy (by go_simp;exact bS.o.1);intro f6;simp only[gn,gU,iw];refine l4.mC _ oO oO ?_ ?_;. intro ah hf;unfold ix;go_simp;exact Gx ah (yv (uB (.inl oP) (.inr fun fO g=>World.ownsRow.alloc g _) (.inl oP) oP))
     intro e';simp only[gn,gU,p8];refine l4.mC _ oO oO ?_ ?_;. intro ah hf;have de:ah.w.ownsRow bO.heap.size 80 2 (.slice (jK (cW.x 0)) (0+af) (j3 (cW.x 0))) (0+af) ([]++mi q.ws):=(hf 3 oP).get rfl rfl;have fv:Bx ah.w e'.lo #[.int .i64 bv, .string aQ] 80:=(hf 13 oP).get rfl rfl;exact Ci (.tmp 101) (.tmp 111) 23 rfl 80 e4 _ 2 24 hM a9.o.1 a9.o.2.1 a9.o.2.2.1 a9.o.2.2.2 rfl oF ah (.slice (jK (cW.x 0)) (0+af) (j3 (cW.x 0))) (0+af) ([]++mi q.ws) rfl de (gq ⟨e'.lo,0,gd⟩) 1 1 [.int .i64 bv, .string aQ] rfl (by intro e;cases e) rfl (gO.bx fv) (by intro f7 eW;simp at eW;rcases eW with rfl|rfl<;>rfl) (by unfold maxLen;omega) oM fun w' bp=>yv (uB (.inl oP) (.inl oP) (.inl oP) oP)
     intro cV;simp only[gn,gU,kf];refine l4.done ?_;intro fb U;have dd:fb.ownsRow bO.heap.size 80 2 (ht (jK (cV.x 0)) (0+af+1) (j3 (cV.x 0))) (0+af+1) ([]++mi q.ws++[gE ha bv, hA aQ]):=U.get 14 oO rfl rfl;have b4:=U.below;obtain⟨e7,da⟩:=nM (jK (cV.x 0));obtain⟨d7,db⟩:=nM (j3 (cV.x 0));rw[da,db,Nat.zero_add,hg] at dd;rw[da,db,Nat.zero_add];clear da db U j r bc be cy;refine iG 15 fun K hK=>?_;go_simp;refine hK _ _ ?_;clear hK K;refine kS ?_;have cP:(q.ws++[qQ x O]).length=af+1:=by rw[iI,c6.o];rfl
     have ex:mi (q.ws++[qQ x O])=mi q.ws++[gE ha bv, hA aQ]:=by rw[bS.o.2.1];simp[mi]
     obtain⟨fN,c',ea,eV,eT,-⟩:=nC dd;obtain⟨rfl,rfl⟩:e7=fN/\d7=c':=by simpa using ea
     have dh:=iq bh.o.2.2.2.2.1 b4;have ca:=GW x.gL (hF (dC x.gL po co pc cc)) (q.ws++[qQ x O]) e7 d7 af fb (a7.o.2.1.below dh) (iV.js (by rw[ex];exact eT.mono fun b h=>h.2)) (by rw[cP];exact eV) (fun E fJ=>by
      rcases jD.1 fJ with g|g;rw[bS.o.2.2.2 E g];decide;rw[lx.1 g,bS.o.2.1];have:=bS.o.2.2.1;simp only
      omega) (by rw[cP];have:=cq.o.2.2;omega)
     rw[cP,show kW af 0 (q.ws++[qQ x O])=n5 x q.ws O by rw[<-c6.o];exact OI x q.ws O] at ca;obtain⟨D,er,dj⟩: ∃D er,gR x.gL (n5 x q.ws O)=(D,er):=⟨_,_,rfl⟩;rw[dj] at ca;have dU:=gF (dT.o D er dj);unfold dC at ca;have d1:=gF ca;have dN:=bh.o.1.gD b4;have fg:=bP.gD b4;have c2:=gF (gK dN (gK (bh.o.2.1.gD b4) dh));obtain⟨j,r⟩:=dN.c2;unfold ib at j;obtain⟨bc,be⟩:=fg.c2;clear cP ex ea eV eT dh ca dj dN fg bP dd b4 dT;go_wp2_with fail;refine d1.o.mono ?_;rintro e cX ⟨f8,rfl,dp,cG⟩;have eu:=dp;obtain⟨aM,aL,aN,Z,rfl⟩:=dp.agg;have ff:=c2.o.1.gD cG;have fj:=c2.o.2.1.gD cG;have ee:=iq c2.o.2.2 cG;obtain⟨K,hK⟩:=nM cX.heap.size;obtain⟨Wd,b1⟩:=nM (cX.alloc (hI (dC D aM aN aL Z) 25));have a0:gi cX.heap.size cX Wd:=by rw[<-b1];exact Below.one _ _
     have cZ:Bx Wd K (dC D aM aN aL Z) 25:=by rw[<-b1, <-hK];exact Bx.new _ _ _
     have bC:=ff.gD a0;have cl:=fj.gD a0;have eg:=iq ee a0;have dX:=gF (eu.below a0);have c4:=gF (gK bC (gK cl eg));unfold dC at b1;have dY:=gF (gK b1 hK);clear j r bc be ff fj ee cG a0 eg dp eu b1 hK d1;go_upto_region 27 with fail
     rw[dY.o.1,dY.o.2];cases ez:(er !=0) with
     | true=>
      have b9:er≠0:=by simpa using ez
      have aE:Hid (pY x l=({ x with gL:=D },er)):=gF (by rw[dU.o,if_pos b9]);clear b9;have dG:=aq.o.2.2.2;obtain⟨We,b2⟩:=nM (mj Wd N (gE ha D.size) (ht aM D.gG.length aL) (ht aN D.gH.length Z) (gE ha D.left));have du:Only N Wd We:=by rw[<-b2];exact tY
      have fS:Bx We N (ib D aM aN aL Z x.gI x.gJ x.gZ x.gN fo x.free.length fc) 33:=by rw[<-b2];have:=((((bC.set 0 (gE ha D.size)).set 1 (ht aM D.gG.length aL)).set 2 (ht aN D.gH.length Z)).set 3 (gE ha D.left));simpa[ib,Go.Proofs.YtlefmmhlpgmbjaaGreat.mj] using this
      have dQ:=cl.only du oM;have eh:gi w.heap.size w We:=by rw[<-b2];exact r8 c4.o.2.2 oM
      have ev:iF We (hF (dC D aM aN aL Z)) D:=dX.o.only bC (kZ _ _ _ _ _ _ _ _ _ _ _ _ _ _ _) du;obtain⟨Wf,k⟩:=nM (jr We (N+1) (gE ha D.size) (ht aM D.gG.length aL) (ht aN D.gH.length Z) (gE ha D.left) (gE ha x.gI) (gE ha x.gJ) (gE ha x.gZ) (gE ha x.gN) (ht fo T fc));have aD:Bx Wf (N+1) (ib D aM aN aL Z x.gI x.gJ x.gZ x.gN fo T fc) 33:=by rw[<-k];exact dQ.kh
      have aa:gi w.heap.size w Wf:=by rw[<-k];exact mV eh oM
      have cm:iF Wf (hF (dC D aM aN aL Z)) D:=ev.only dQ (kZ _ _ _ _ _ _ _ _ _ _ _ _ _ _ _) (by rw[<-k];exact Only.nine);have a8:=gF (gK aD (gK aa cm));have fm:=gF (gK b2 k);obtain⟨cx,e5⟩:=cZ.c2;unfold dC at cx;obtain⟨bV,e6,fU⟩:=bC.c3;unfold ib at bV;rw[aR.o] at bV;obtain⟨bW,cg,bX⟩:=cl.c3;clear b2 du fS dQ eh ev k aD aa cm bC cl dG cZ;go_wp2;obtain⟨au,al⟩:=fm.o;unfold mj at au;unfold jr lj at al;rw[au,al];have ar:=a8.o.1.cell;unfold ib at ar;refine gj (v:= hG #[hF (ib D aM aN aL Z x.gI x.gJ x.gZ x.gN fo T fc), gE ha er]) (by simp[gy,gz,go_sem,ar,ib]) rfl ?_;rw[<-bD.o,aE.o, <-aR.o];exact⟨_,rfl,⟨aM,aL,aN,Z,fo,fc,rfl,a8.o.2.2,a7.o.2.2.1,a7.o.2.2.2.below a8.o.2.1⟩,a8.o.2.1⟩
     | false=>
      obtain rfl:er=0:=by simpa using ez
      obtain⟨G,cA,U⟩: ∃G cA,jF D x.gI x.gJ=(G,cA):=⟨_,_,rfl⟩;have aE:Hid (pY x l=(G,cA)):=gF (by rw[dU.o,if_neg oF,U]);have cJ:=Af D _ x.gI x.gJ Wd dX.o;rw[U] at cJ;simp only at cJ;have d0:=gF cJ;obtain⟨cx,e5⟩:=cZ.c2;unfold dC at cx;obtain⟨bV,e6⟩:=bC.c2;unfold ib at bV;clear U cJ bC cl cZ;go_wp2_with fail;refine d0.o.mono ?_;rintro e ft ⟨f9,rfl,eY,aG⟩;have eZ:=eY;obtain⟨cB,gc,Y,hc,cS,cR,rfl,-,-,-⟩:=eY;have aP:=c4.o.2.1.gD aG;have bd:=iq c4.o.2.2 aG;have dG:=aq.o.2.2.2;obtain⟨Wf,k⟩:=nM (jr ft (N+1) (gE ha G.gL.size) (ht cB G.gL.gG.length gc) (ht Y G.gL.gH.length hc) (gE ha G.gL.left) (gE ha G.gI) (gE ha G.gJ) (gE ha G.gZ) (gE ha G.gN) (ht cS G.free.length cR));have aD:Bx Wf (N+1) (ib G.gL cB Y gc hc G.gI G.gJ G.gZ G.gN cS G.free.length cR) 33:=by rw[<-k];exact aP.kh
      have aa:gi w.heap.size w Wf:=by rw[<-k];exact mV bd oM
      have cm:kG Wf (hF (ib G.gL cB Y gc hc G.gI G.gJ G.gZ G.gN cS G.free.length cR)) G:=eZ.only aP (kZ _ _ _ _ _ _ _ _ _ _ _ _ _ _ _) oF (by rw[<-k];exact Only.nine);have a8:=gF (gK aD (gK aa cm));have aV:=gF k;clear cx e5 bV e6;obtain⟨bW,cg,bX⟩:=aP.c3;clear k aD aa cm aP bd dG eZ aG d0;go_wp2;have al:=aV.o;unfold jr lj at al;rw[al];have ar:=a8.o.1.cell;unfold ib at ar;refine gj (v:= hG #[hF (ib G.gL cB Y gc hc G.gI G.gJ G.gZ G.gN cS G.free.length cR), gE ha cA]) (by simp[gy,gz,go_sem,ar,ib]) rfl ?_;rw[<-bD.o,aE.o];exact⟨_,rfl,a8.o.2.2,a8.o.2.1⟩
   all_goals
    go_upto_if 93 with fail
    obtain⟨Wf,k⟩:=nM (jr bO (N+1) (gE ha 0) (ht gd 0 0) (ht gd 0 0) (gE ha 0) (gE ha 0) (gE ha 0) (gE ha 0) (gE ha 0) (ht gd 0 0));have aJ:=aq.o.2.2.2;have aD:Bx Wf (N+1) jW 33:=by subst k;exact ag.kh
    have aa:gi w.heap.size w Wf:=by subst k;exact mV aF oM
    have aV:=gF k;have bb:=gF aa;clear aa k aJ;obtain⟨bW,cg,bX⟩:=ag.c3;go_wp2;have aI:=aV.o;unfold jr lj at aI;rw[aI];have ar:=aD.cell;refine gj (v:= hG #[hF jW, gE ha 17]) (by simp[gy,gz,go_sem,ar]) rfl ?_;rw[<-bD.o,aE.o];exact⟨_,rfl,kG.zero _,bb.o⟩
theorem OQ (p s:Int):(mN p s).1.gH=[]:=by unfold mN;split<;>rfl
abbrev wI (p gI gJ:Int) (o:Option Addr) (n c:Nat):Array gB:=#[gE ha p, gE ha gI, gE ha gJ, ht o n c]
theorem G6 (h:iW d=0) {x:Int} (r: -1<=x):iW { d with left:=x }=0:=by
 unfold iW at h |-;split at h;cases h;rename_i j;split at h;cases h;rename_i k;split at h;rename_i g;exact absurd h g;rename_i g;rw[if_neg j,if_neg k,if_neg g,if_neg (by simp only;omega)]
theorem OS (h:iW d=0) {x:Int} (g: -1<=x) (k:Int):gQ { d with left:=x } k=gQ d k:=by
 unfold gQ lO;rw[G6 h g,h];rfl
theorem k5.left {d:ik} {gI gJ:Int} {V:Nat} {t:Option Nd} (h:k5 d gI gJ V t) {x:Int} (g: -1<=x):k5 { d with left:=x } gI gJ V t:=by
 have hc:=h.bd.1;exact h.same ⟨G6 hc g,rfl,rfl⟩ h.empty fun j _=>OS hc g j
theorem vC {a:kP} {l:List Kv} (h:kF x a l=R) (g:R.2=0\/R.2=18):pO x a l=R:=by
 unfold pO;rw[h,if_neg oM]
theorem Cx {a:kP} {l:List Kv} (h:kF x a l=R) (g:R.2≠0) (j:R.2≠18):pO x a l=(x,R.2):=by
 unfold pO;rw[h,if_pos ⟨g,j⟩]
theorem Cy: ∀(l:List ju) (p:Option ju),iD p l=0\/iD p l=1\/iD p l=4\/iD p l=9
 | [],_=> .inl rfl
 | c::l,p=>by
  rw[iD];split;rename_i h;have:iZ p c=0\/iZ p c=1\/iZ p c=4\/iZ p c=9:=by
   have r: ∀(A g C:Prop) [Decidable A] [Decidable g] [Decidable C],(if A then (4:Int) else if g then 9 else if C then 1 else 0)=0\/(if A then (4:Int) else if g then 9 else if C then 1 else 0)=1\/(if A then (4:Int) else if g then 9 else if C then 1 else 0)=4\/(if A then (4:Int) else if g then 9 else if C then 1 else 0)=9:=by
    intro A g C _ _ _
    by_cases j:A
    simp[j]
    by_cases k:g
    simp[j,k]
    by_cases s:C<;>simp[j,k,s]
   exact r _ _ _
  exact this;exact Cy l _
theorem qb.ok {g:Option Nd} (h:qb d gI gJ V t g R):R.2=0\/R.2=18:=by
 rcases h.res with h|h;exact .inl h.1;exact .inr h.1
theorem OT (h:k5 d gI gJ V t) (D:V+1<=200) {a:kP} (E:a.kind=0\/a.kind=1):
  (∃er,er≠0/\er≠18/\lN (iP d gI gJ V t) (nx a (jz t))=(iY,er)/\pO (iP d gI gJ V t) a (jz t)=(iP d gI gJ V t,er))\/
  (iD gd (nx a (jz t))=0/\nx a (jz t)=[]/\pO (iP d gI gJ V t) a (jz t)=(iP d gI gJ V t,0))\/
  (iD gd (nx a (jz t))=0/\ ∃r,nW r/\jz r=uq (jz t) (nx a (jz t))/\qb d gI gJ V t r (pO (iP d gI gJ V t) a (jz t))/\pO (iP d gI gJ V t) a (jz t)=lN (iP d gI gJ V t) (nx a (jz t))):=by
 have j:kF (iP d gI gJ V t) a (jz t)=lN (iP d gI gJ V t) (nx a (jz t)):=by unfold kF;rw[if_pos E]
 rcases zO h D (nx a (jz t)) with⟨k,g⟩|⟨_,_,g⟩|⟨k,_,y,g⟩|⟨_,_,_,_,g⟩|⟨k,_,_,r,p,_,z,B,s⟩;left;rw[g] at j;have G:=Cy (nx a (jz t)) gd;have v:iD gd (nx a (jz t))≠18:=oM
 exact⟨_,k,v,g,Cx j k v⟩;rotate_left
 right;left
 rw[g] at j;exact⟨k,y,vC j (.inl rfl)⟩;rotate_left
 right;right
 have u:=vC j s.ok;exact⟨k,r,z,B,by rw[u];exact s,u⟩;all_goals left;rw[g] at j;exact⟨_,oF,oF,g,Cx j oF oF⟩
theorem k5.kN {d:ik} {gI gJ:Int} {V:Nat} {t:Option Nd} (h:k5 d gI gJ V t):kN d gI gJ=(iP d gI gJ V t,0):=by rw[zv];exact h.opens
theorem OU {p:Int} {g:List kP} (h:xn p g=ga):g.length<=8/\p<=40/\ ∀a∈g,lF a=true:=by
 unfold xn at h;simp only[Bool.and_eq_true,Bool.not_eq_eq_eq_not,Bool.not_true,decide_eq_false_iff_not,List.all_eq_true] at h;obtain⟨k,r,j⟩:=h;exact⟨oM,oM,j⟩
def nB (x:Ix) (a:kP) (l:List Kv):Ix×Int:=
 if a.kind=0\/a.kind=1 then pY x (nx a l)
 else if a.kind=2 then (oJ x a.left,0)
 else if a.kind=3 then jF (ma x.gL a.gP) x.gI x.gJ
 else (x,0)
def nQ (x:Ix) (a:kP) (l:List Kv):Ix×Int:=if (nB x a l).2≠0/\(nB x a l).2≠18 then (x,(nB x a l).2) else nB x a l
def wJ (x:Ix):List Kv:=match n4 x with|none=>[]|some t=>jz t
structure mh (gI gJ:Int) (V:Nat) (x:Ix):Prop where
 few:x.gL.gH.length<=3000
 st:(∃U t,U<=V/\x=iP x.gL gI gJ U t/\k5 x.gL gI gJ U t)\/
  (x.gL.left=0/\x.gI=gI/\x.gJ=gJ/\ ∃U t t',U+1<=V/\ ∀gP,k5 (ma x.gL gP) gI gJ U t\/k5 (ma x.gL gP) gI gJ (U+1) t')
theorem mh.mono {W:Nat} (h:mh gI gJ V x) (k:V<=W):mh gI gJ W x:=by
 refine⟨h.few,?_⟩;rcases h.st with⟨g,t,a,b⟩|⟨a,b,c,g,t,j,d,e⟩;exact .inl ⟨g,t,oM,b⟩;exact .inr ⟨a,b,c,g,t,j,oM,e⟩
theorem mh.Cz {g:Nat} (h:k5 d gI gJ g t) (j:g<=V):mh gI gJ V (iP d gI gJ g t):=
 ⟨by show d.gH.length<=3000;rw[h.empty];exact hn _, .inl ⟨g,t,j,rfl,h⟩⟩
theorem OV (j:d.left=0) (i:Int) (s:ByteArray):(mR d i s).2≠0/\((mR d i s).2=18->(mR d i s).1=d):=by
 rcases Dj d i s with⟨h,g,-⟩|⟨-,-,-,-,⟨h,-,g⟩|⟨-,g,-⟩⟩;exact⟨h,fun e=>absurd e g⟩;exact⟨by rw[h];decide,fun _=>g⟩;exact absurd j g
theorem OW (h:d.left=0) (i:Int) (s:ByteArray) (r:List lJ):(gR d (.wr i s::r)).2≠0/\((gR d (.wr i s::r)).2=18->(gR d (.wr i s::r)).1=d):=by
 have g:=OV h i s;have e:gR d (.wr i s::r)=mR d i s:=by show(if (mR d i s).2≠0 then mR d i s else gR (mR d i s).1 r)=_;rw[if_pos g.1]
 rw[e];exact g
theorem OX (x:Ix) (ws:List PW) (gN:Int): ∃i s r,n5 x ws gN= .wr i s::r:=by
 unfold n5;cases ws with
 | nil=>exact⟨_,_,_,rfl⟩
 | cons g ws=>exact⟨_,_,_,rfl⟩
theorem G7 (z:x.gL.left=0) (l:List ju):((lN x l).2=0->(lN x l).1=x/\l=[])/\((lN x l).2=18->(lN x l).1=x):=by
 cases h:mz x with
 | none=>rw[BG h];exact⟨(fun g=>by cases g),fun g=>by cases g⟩
 | some t=>
  by_cases hc:iD gd l=0
  .
   cases k:l.any (og t) with
   | true=>rw[zz h hc k];exact⟨(fun g=>by cases g),fun g=>by cases g⟩
   | false=>
    by_cases j:l=[]
    subst j;rw[zA h];exact⟨(fun _=>⟨rfl,rfl⟩),fun g=>by cases g⟩;cases hp:kO x t l with
    | none=>rw[uX h hc k j (.inl hp)];exact⟨(fun g=>by cases g),fun g=>by cases g⟩
    | some s=>
     obtain⟨n,p⟩:=s
     by_cases y:x.gZ=1099511627776
     rw[uX h hc k j (.inr y)];exact⟨(fun g=>by cases g),fun g=>by cases g⟩;obtain⟨F,er,u⟩: ∃F er,gR x.gL (n5 x p.ws (iA n))=(F,er):=⟨_,_,rfl⟩;have v:=xd h hc k j hp y u;obtain⟨i,D,s,B⟩:=OX x p.ws (iA n);have r:=OW z i D s;rw[<-B,u] at r;rw[if_pos r.1] at v;rw[v];refine⟨fun g=>absurd g r.1,fun g=>?_⟩;show({ x with gL:=F }:Ix)=x;have:F=x.gL:=r.2 g;rw[this]
  rw[zy h hc];have:=Cy l gd;exact⟨fun g=>absurd g hc,fun g=>by have g:iD gd l=18:=g;omega⟩
theorem mh.same (h:mh gI gJ V x) (T:V+1<=200) (a:kP) (l:List Kv):nQ x a l=pO x a l:=by
 have H:nB x a l=kF x a l:=by
  unfold nB kF
  by_cases k:a.kind=0\/a.kind=1
  rw[if_pos k,if_pos k];refine OE fun J g s=>?_;rcases h.st with⟨L,t,O,v,u⟩|⟨G,-⟩;obtain⟨d,E⟩:=nM x.gL;rw[E] at v u;subst v;rcases zO u oM (nx a l) with⟨B,j⟩|⟨_,_,j⟩|⟨_,_,D,_⟩|⟨_,_,_,_,j⟩|⟨_,_,_,U,p,_,_,_,r⟩;rw[j] at g;simp only[gg] at g;exact absurd g.2 B;rw[j] at g;simp at g;exact absurd D s;rw[j] at g;simp at g;rw[g] at r;rcases r.res with⟨_,y,z⟩|⟨I,_⟩;simp only at y z;show jF J.gL gI gJ=_;rw[y.opens, <-z];cases I;have:=(G7 G (nx a l)).1 (by rw[g]);exact absurd this.2 s;rw[if_neg k,if_neg k];split;rfl;split;rw[zv];rfl
 unfold nQ pO;rw[H]
theorem mh.step (h:mh gI gJ V x) (ag:V+1<=200) (a:kP):mh gI gJ (V+1) (pO x a (wJ x)).1:=by
 have I:=h.mono (Nat.le_succ V);rcases h.st with⟨j,t,Z,v,r⟩|⟨T,hf,ad,j,t,O,Z,hp⟩;.
  obtain⟨d,aa⟩:=nM x.gL;rw[aa] at v r;subst v;have ac:wJ (iP d gI gJ j t)=jz t:=by unfold wJ;rw[r.valid]
  rw[ac]
  by_cases k:a.kind=0\/a.kind=1
  rcases OT r oM k with⟨er,_,_,_,G⟩|⟨_,_,G⟩|⟨_,O,_,_,H,_⟩;rw[G];exact I;rw[G];exact I;rcases H.res with⟨ae,J,z⟩|⟨ae,J,z,af⟩;exact⟨H.few, .inl ⟨j+1,O,oM,z,J⟩⟩;exact⟨H.few, .inr ⟨J,by rw[z];rfl,by rw[z];rfl,j,t,O,oM,af⟩⟩;have y: ∀e:ik,kF (iP d gI gJ j t) a (jz t)=(iP e gI gJ j t,0)->k5 e gI gJ j t->mh gI gJ (V+1) (pO (iP d gI gJ j t) a (jz t)).1:=fun e g Y=>by rw[vC g (.inl rfl)];exact .Cz Y oM
  by_cases s:a.kind=2
  .
   have g:kF (iP d gI gJ j t) a (jz t)=(oJ (iP d gI gJ j t) a.left,0):=by unfold kF;rw[if_neg k,if_pos s]
   by_cases hp:d.left= -1/\0<=a.left
   have v: -1<=a.left.tmod 40:=by have:=hr hp.2 (b:=40);omega
   refine y { d with left:=a.left.tmod 40 } ?_ (r.left v);rw[g];unfold oJ;rw[if_pos (show(iP d gI gJ j t).gL.left= -1/\0<=a.left from hp)];rfl;refine y d ?_ r;rw[g];unfold oJ;rw[if_neg (show¬((iP d gI gJ j t).gL.left= -1/\0<=a.left) from hp)]
  by_cases u:a.kind=3
  refine y (ma d a.gP) ?_ (r.sW _);unfold kF;rw[if_neg k,if_neg s,if_pos u];exact(r.sW a.gP).kN;refine y d ?_ r;unfold kF;rw[if_neg k,if_neg s,if_neg u]
 obtain⟨l,ab⟩:=nM (wJ x);rw[ab];have L:(pO x a l).1=x->mh gI gJ (V+1) (pO x a l).1:=fun e=>by rw[e];exact I
 by_cases k:a.kind=0\/a.kind=1
 .
  refine L ?_;have g:kF x a l=lN x (nx a l):=by unfold kF;rw[if_pos k]
  obtain⟨U,X⟩:=G7 T (nx a l)
  by_cases B:(lN x (nx a l)).2=0
  rw[vC g (.inl B)];exact(U B).1
  by_cases D:(lN x (nx a l)).2=18
  rw[vC g (.inr D)];exact X D;rw[Cx g B D]
 by_cases s:a.kind=2
 refine L ?_;have g:kF x a l=(x,0):=by unfold kF oJ;rw[if_neg k,if_pos s,if_neg (by rw[T];omega)]
 rw[vC g (.inl rfl)]
 by_cases u:a.kind=3
 .
  have g:kF x a l=kN (ma x.gL a.gP) gI gJ:=by unfold kF;rw[if_neg k,if_neg s,if_pos u,hf,ad]
  rcases hp a.gP with E|E;rotate_left;all_goals rw[E.kN] at g;rw[vC g (.inl rfl)];exact .Cz E oM
 refine L ?_;have g:kF x a l=(x,0):=by unfold kF;rw[if_neg k,if_neg s,if_neg u]
 rw[vC g (.inl rfl)]
theorem mh.begin {y:Ix} (h:jF (kY d gI gJ).1 gI gJ=(y,0)) (j:(kY d gI gJ).2=0):mh gI gJ 1 y:=by
 obtain⟨g,-⟩:=ve j;rw[g.opens] at h;simp only[gg] at h;rw[<-h.1];exact .Cz g (hD _)
theorem OY (d:ik) (v:gB) (gP:List Int) (g:Option Addr) (k:Nat) (w:gA) {T:Nat->Prop} (r:iF w v d) (y:lp T w g gP) (z:gP.length<=1000000) (u:d.gH.length<=1000000) {A:ik} (s:ma d gP=A):
  gM gm 66 #[v, ht g gP.length k] w fun e w'=> ∃v',e= .returned v'/\iF w' v' A/\gi w.heap.size w w':=by
 refine(ID d v gP g k w r y z u).mono ?_;rintro e w' ⟨v',rfl,h,j⟩;rw[s] at h;exact⟨v',rfl, .of h (vK j),j⟩
theorem OZ (x:Ix) (v:gB) (a:kP) (aA aC qB av:Option Addr) (az aB dc au:Nat) (l:List Kv) (lo:Option Addr) (lc:Nat) (w:gA) (bC:kG w v x) (aG:ur w a aA aC qB av az aB dc au) (hf:lF a=ga) (aP:jS w lo l) (aQ:jk lo l.length lc) (hc:x.gL.gH.length<=900000):
  gM gm 31 #[v, hF (jG a aA aC qB av az aB dc au), ht lo l.length lc] w (oV w (nQ x a l)):=by
 obtain⟨R,aj⟩:=nM (nQ x a l);rw[aj];obtain⟨bX,bY⟩:=nP (jG a aA aC qB av az aB dc au);have aq:=bC;obtain⟨po,pc,co,cc,fo,fc,rfl,aU,a',ba⟩:=bC;obtain⟨N,aH⟩:=nM w.heap.size;obtain⟨W3,aV⟩:=nM (((w.alloc (hI (ib x.gL po co pc cc x.gI x.gJ x.gZ x.gN fo x.free.length fc) 33)).alloc (hI (jG a aA aC qB av az aB dc au) 54)).alloc (hI jW 33));have bo:Bx W3 N (ib x.gL po co pc cc x.gI x.gJ x.gZ x.gN fo x.free.length fc) 33:=by subst aV aH;exact((Bx.new w _ _).alloc _).alloc _
 have bO:Bx W3 (N+1) (jG a aA aC qB av az aB dc au) 54:=by subst aV aH;exact(Bx.ir _ _ _ _ oC).alloc _
 have bP:Bx W3 (N+2) jW 33:=by subst aV aH;exact Bx.ir _ _ _ _ oC
 have aX:W3.heap.size=N+3:=by subst aV aH;simp
 have bA:gi w.heap.size w W3:=by subst aV;exact((Below.one w _).alloc oC _).alloc oN _
 obtain⟨T,ar⟩:=bo.c2;go_enter func31,ntmps31;go_upto_region 2 with fail
 have bB:=Below.one W3 (hI (ib x.gL po co pc cc x.gI x.gJ x.gZ x.gN fo x.free.length fc) 33);have E:pV w N x x po co fo po co fo pc cc fc pc cc fc (jG a aA aC qB av az aB dc au) (W3.alloc (hI (ib x.gL po co pc cc x.gI x.gJ x.gZ x.gN fo x.free.length fc) 33)):=by have bg:=iq bA bB;exact⟨bo.alloc _,bO.alloc _,bP.alloc _,Bx.ir _ _ _ _ aX.symm,bg,aq.below bg,aq.below bg⟩
 clear T ar bo bO bP bA bB aV aX;generalize W3.alloc (hI (ib x.gL po co pc cc x.gI x.gJ x.gZ x.gN fo x.free.length fc) 33)=W4 at *;obtain⟨a4,bb⟩:=E.act.c2;obtain⟨T,ar⟩:=E.box.c2;cases bG:(a.kind==0)
 case' false=>
  have b0:a.kind≠0:=by simpa using bG
  cases bH:(a.kind==1)
  case' false=>
   have b1:a.kind≠1:=by simpa using bH
   cases bI:(a.kind==2)
   case' false=>
    have bM:a.kind≠2:=by simpa using bI
    cases bJ:(a.kind==3)
    case' false=>
     have bW:a.kind≠3:=by simpa using bJ
     obtain⟨F,gp,gc,gf,hp,I,hf',aM,bf,bu,bv,bw,bx,bz⟩: ∃F gp gc gf hp I hf',F=x/\gp=po/\gc=co/\gf=fo/\hp=pc/\I=cc/\hf'=fc:=⟨_,_,_,_,_,_,_,rfl,rfl,rfl,rfl,rfl,rfl,rfl⟩;have U:nB x a l=(F,0):=by rw[aM];unfold nB;rw[if_neg oM,if_neg bM,if_neg bW]
     have D:pV w N x F po co fo gp gc gf pc cc fc hp I hf' (jG a aA aC qB av az aB dc au) W4:=by rw[aM,bf,bu,bv,bw,bx,bz];exact E
     clear aM bf bu bv bw bx bz;clear T ar;go_upto_region 10 with fail
     obtain⟨ay,J⟩:=nP W4;rw[<-J] at D |-;clear a4 bb J;have bc:=D.box;have ao:=D.res;have bd:=D.qC;obtain⟨T,ar⟩:=bc.c2;obtain⟨a5,bK,bt⟩:=ao.c3;obtain⟨ag,bL⟩:=bd.c2;unfold ib at T ag;unfold jW at a5;obtain⟨G,H⟩:=nP F;have ap:R=(G,0):=by rw[<-aj,H];unfold nQ;rw[U,if_neg fun ah=>ah.1 rfl]
     have g:=D.new;obtain⟨Wf,h⟩:=nM (jr ay (N+2) (gE ha F.gL.size) (ht gp F.gL.gG.length hp) (ht gc F.gL.gH.length I) (gE ha F.gL.left) (gE ha F.gI) (gE ha F.gJ) (gE ha F.gZ) (gE ha F.gN) (ht gf F.free.length hf'));rw[<-H] at g h ag;obtain⟨k,r,s,u,y,B,Z,aa,ab,ac,ad,ae⟩: ∃k r s u y B,k=gp/\r=gc/\s=gf/\u=hp/\y=I/\B=hf':=⟨_,_,_,_,_,_,rfl,rfl,rfl,rfl,rfl,rfl⟩;rw[<-Z, <-aa, <-ab, <-ac, <-ad, <-ae] at g h ag;clear Z aa ab ac ad ae H;clear aj U E aG aP aQ aq aU a' ba;have be:Bx Wf (N+2) (ib G.gL k r u y G.gI G.gJ G.gZ G.gN s G.free.length B) 33:=by subst h;exact ao.kh
     have aK:gi w.heap.size w Wf:=by subst h;exact mV D.below oM
     have aL:kG Wf (hF (ib G.gL k r u y G.gI G.gJ G.gZ G.gN s G.free.length B)) G:=by subst h;exact g.only ao (kZ _ _ _ _ _ _ _ _ _ _ _ _ _ _ _) oF Only.nine
     have a1:=gF h;have aY:=gF aK;have aZ:=gF aL;have a0:=gF ap;clear h aK aL ap g;go_wp2;have aE:=a1.o;unfold jr lj at aE;rw[aE];have aF:=be.cell;unfold ib at aF;refine gj (v:= hG #[hF (ib G.gL k r u y G.gI G.gJ G.gZ G.gN s G.free.length B), gE ha 0]) (by simp[gy,ho,go_sem,aF,ib]) rfl ?_;rw[a0.o];exact⟨_,rfl,aZ.o,aY.o⟩
    case' true=>
     have bU:a.kind=3:=by simpa using bJ
     have U:nB x a l=jF (ma x.gL a.gP) x.gI x.gJ:=by unfold nB;rw[if_neg oM,if_neg bM,if_pos bU]
     obtain⟨C,bh⟩:=nM (ma x.gL a.gP);obtain⟨F,er,O⟩: ∃F er,jF C x.gI x.gJ=(F,er):=⟨_,_,rfl⟩;have bZ:=wB hf;have bD:=fun W (ai:gi w.heap.size w W)=>OY x.gL _ a.gP av au W (aU.below ai) ((aG.below ai).gP) oM oM bh;have bk:=fun v W (bV:iF W v C)=>Af C v x.gI x.gJ W bV;rw[bh,O] at U;rw[O] at bk;have bQ:=gF bD;have bR:=gF bk;have ax:Hid (∀x:jv W4,gi w.heap.size w x.w):=gF fun x=>iq E.below x.h;clear bD bk O bh;have a6:=jv.cells W4;go_upto_region 9 with fail
     refine sf 13 12 2 #[ga,ga,ga,ga,ga,ga,ga,ga,ga,ga,ga,ga,gk,gk,gk] #[ga,ga,ga,ga,ga,ga,ga,ga,ga,ga,ga,ga,ga,gk,gk] (fun i=>if i=4 then gq (qV C) else if i=9 then gq (lG F er) else gd) _ oP rfl oO oO oP oO rfl (fun _ _ _ _ ah=>ah) (sg _ _ rfl) ?_;simp only[gl,gu];refine LW.b 4 4 ?_;simp only[jC];repeat (go_big_quiet_step (fail))
     refine gh ?_;refine LW.z ?_ ?_;. intro aJ _;unfold ix;go_simp;exact vp (bQ.o _ (ax.o _))
     intro aS;simp only[gn,gU,qV];refine LW.b 4 9 ?_;simp only[jC];repeat (go_big_quiet_step (fail))
     refine gh ?_;refine LW.z ?_ ?_;. intro aJ a9;have bS:iF aJ.w (aS.x 0) C:=(a9 4 oP).get (j:=4) rfl rfl;unfold ix;go_simp;exact vq (bR.o _ _ bS)
     intro bN;simp only[gn,gU,lG];refine LW.b 3 13 ?_;simp only[jC];repeat (go_big_quiet_step (fail))
     refine gh ?_;refine LW.done ?_;intro aw g;have af:kG aw (bN.x 0) F:=g.get 9 rfl rfl;have ak:=g.below;obtain⟨bn,aI⟩:=nM (bN.x 0);rw[aI] at af |-;clear g aI T ar a4 bb a6;have Y:=E.next ak;have al:=af;obtain⟨gp,hp,gc,I,gf,hf',rfl,-,-,-⟩:=af;obtain⟨ay,J⟩:=nM (jr aw (N+3) (gE ha F.gL.size) (ht gp F.gL.gG.length hp) (ht gc F.gL.gH.length I) (gE ha F.gL.left) (gE ha F.gI) (gE ha F.gJ) (gE ha F.gZ) (gE ha F.gN) (ht gf F.free.length hf'));have D:=Y.put aH al J;obtain⟨am,aR,X⟩:=Y.qC.c3;unfold ib at am;unfold jr lj at J;refine iG 13 fun K hK=>?_;go_simp;refine hK _ _ ?_;clear hK K;refine iG 14 fun K hK=>?_;go_simp;refine hK _ _ ?_;clear hK K;refine kS ?_;clear E Y ak al;go_upto_region 10 with fail
     clear J am aR X
   case' true=>
    have bT:a.kind=2:=by simpa using bI
    obtain⟨F,O⟩:=nM (oJ x a.left);have U:nB x a l=(F,0):=by unfold nB;rw[if_neg oM,if_pos bT,O]
    have bl:=FM x _ a.left W4 (aq.below E.below);rw[O] at bl;have bp:=gF bl;have bq:=gF E;clear bl O E;go_wp2_with fail;refine bp.o.mono ?_;rintro e aw ⟨bn,rfl,af,ak⟩;have E:=bq.o;clear T ar a4 bb bq bp;have Y:=E.next ak;have al:=af;obtain⟨gp,hp,gc,I,gf,hf',rfl,-,-,-⟩:=af;obtain⟨ay,J⟩:=nM (jr aw (N+3) (gE ha F.gL.size) (ht gp F.gL.gG.length hp) (ht gc F.gL.gH.length I) (gE ha F.gL.left) (gE ha F.gI) (gE ha F.gJ) (gE ha F.gZ) (gE ha F.gN) (ht gf F.free.length hf'));have D:=Y.put aH al J;obtain⟨am,aR,X⟩:=Y.qC.c3;unfold ib at am;unfold jr lj at J;clear E Y ak al;go_upto_region 10 with fail
    clear J am aR X;have E:=D;have bc:=D.box;have ao:=D.res;have bd:=D.qC;obtain⟨T,ar⟩:=bc.c2;obtain⟨a5,bK,bt⟩:=ao.c3;obtain⟨ag,bL⟩:=bd.c2;unfold ib at T ag;unfold jW at a5;obtain⟨G,H⟩:=nP F;have ap:R=(G,0):=by rw[<-aj,H];unfold nQ;rw[U,if_neg fun ah=>ah.1 rfl]
    have g:=D.new;obtain⟨Wf,h⟩:=nM (jr ay (N+2) (gE ha F.gL.size) (ht gp F.gL.gG.length hp) (ht gc F.gL.gH.length I) (gE ha F.gL.left) (gE ha F.gI) (gE ha F.gJ) (gE ha F.gZ) (gE ha F.gN) (ht gf F.free.length hf'));rw[<-H] at g h ag;obtain⟨k,r,s,u,y,B,Z,aa,ab,ac,ad,ae⟩: ∃k r s u y B,k=gp/\r=gc/\s=gf/\u=hp/\y=I/\B=hf':=⟨_,_,_,_,_,_,rfl,rfl,rfl,rfl,rfl,rfl⟩;rw[<-Z, <-aa, <-ab, <-ac, <-ad, <-ae] at g h ag;clear Z aa ab ac ad ae H;clear aj U E aG aP aQ aq aU a' ba;have be:Bx Wf (N+2) (ib G.gL k r u y G.gI G.gJ G.gZ G.gN s G.free.length B) 33:=by subst h;exact ao.kh
    have aK:gi w.heap.size w Wf:=by subst h;exact mV D.below oM
    have aL:kG Wf (hF (ib G.gL k r u y G.gI G.gJ G.gZ G.gN s G.free.length B)) G:=by subst h;exact g.only ao (kZ _ _ _ _ _ _ _ _ _ _ _ _ _ _ _) oF Only.nine
    have a1:=gF h;have aY:=gF aK;have aZ:=gF aL;have a0:=gF ap;clear h aK aL ap g;go_wp2;have aE:=a1.o;unfold jr lj at aE;rw[aE];have aF:=be.cell;unfold ib at aF;refine gj (v:= hG #[hF (ib G.gL k r u y G.gI G.gJ G.gZ G.gN s G.free.length B), gE ha 0]) (by simp[gy,ho,go_sem,aF,ib]) rfl ?_;rw[a0.o];exact⟨_,rfl,aZ.o,aY.o⟩
  case' true=>
   have bF:a.kind=1:=by simpa using bH
   obtain⟨F,er,O⟩: ∃F er,pY x (nx a l)=(F,er):=⟨_,_,rfl⟩;obtain⟨L,aD⟩:=nM (nx a l);have a7:L.length<=1000:=by have aM:=zQ a l;have bf:=wB hf;rw[aD] at aM;omega
   have aN:=fun W (ai:gi w.heap.size w W)=>zT a aA aC qB av az aB dc au l lo lc W (aG.below ai) hf (aP.below ai) aQ;have aO:=fun W o c (ai:gi w.heap.size w W) (bm:jk o L.length c) (bi:oI W o L)=>G5 x _ L o c W (aq.below ai) bm a7 bi hc;rw[aD] at O aN;rw[O] at aO;have U:nB x a l=(F,er):=by unfold nB;rw[if_pos oM,aD,O]
   (try clear bF)
   (try clear bE)
   have a2:=gF aN;have a3:=gF aO;have ax:Hid (∀aT:jv W4,gi w.heap.size w aT.w):=gF fun aT=>iq E.below aT.h;clear aN aO O aD a7;have a6:=jv.cells W4;go_upto_region 5 with fail
   refine sf 8 7 2 #[ga,ga,ga,ga,ga,ga,ga,gk,gk,gk] #[ga,ga,ga,ga,ga,ga,ga,ga,gk,gk] (fun i=>if i=3 then gq (om L) else if i=4 then gq (lG F er) else gd) _ oP rfl oO oO oP oO rfl (fun _ _ _ _ ah=>ah) (sg _ _ rfl) ?_;simp only[gl,gu];refine LW.b 3 3 ?_;simp only[jC];repeat (go_big_quiet_step (fail))
   refine gh ?_;refine LW.z ?_ ?_;. intro aJ _;unfold ix;go_simp;exact rS (a2.o _ (ax.o _))
   intro X;simp only[gn,gU,om];refine LW.z ?_ ?_;. intro aJ a9;obtain⟨aX,bj⟩:jk (jK (X.x 0)) L.length (j3 (X.x 0))/\oI aJ.w (jK (X.x 0)) L:=(a9 3 oP).get (j:=3) rfl rfl;unfold ix;go_simp;exact qU (a3.o _ _ _ (ax.o _) aX bj)
   intro aS;simp only[gn,gU,lG];refine LW.b 3 8 ?_;simp only[jC];repeat (go_big_quiet_step (fail))
   refine gh ?_;refine LW.done ?_;intro aw g;have af:kG aw (aS.x 0) F:=g.get 4 rfl rfl;have ak:=g.below;obtain⟨bn,aI⟩:=nM (aS.x 0);rw[aI] at af |-;clear g aI T ar a4 bb a6 a2 a3 ax;have Y:=E.next ak;have al:=af;obtain⟨gp,hp,gc,I,gf,hf',rfl,-,-,-⟩:=af;obtain⟨ay,J⟩:=nM (jr aw (N+3) (gE ha F.gL.size) (ht gp F.gL.gG.length hp) (ht gc F.gL.gH.length I) (gE ha F.gL.left) (gE ha F.gI) (gE ha F.gJ) (gE ha F.gZ) (gE ha F.gN) (ht gf F.free.length hf'));have D:=Y.put aH al J;obtain⟨am,aR,X⟩:=Y.qC.c3;unfold ib at am;unfold jr lj at J;refine iG 8 fun K hK=>?_;go_simp;refine hK _ _ ?_;clear hK K;refine iG 9 fun K hK=>?_;go_simp;refine hK _ _ ?_;clear hK K;refine kS ?_;clear E Y ak al;go_upto_region 10 with fail
   clear J am aR X
 case' true=>
  have bE:a.kind=0:=by simpa using bG
  obtain⟨F,er,O⟩: ∃F er,pY x (nx a l)=(F,er):=⟨_,_,rfl⟩;obtain⟨L,aD⟩:=nM (nx a l);have a7:L.length<=1000:=by have aM:=zQ a l;have bf:=wB hf;rw[aD] at aM;omega
  have aN:=fun W (ai:gi w.heap.size w W)=>zT a aA aC qB av az aB dc au l lo lc W (aG.below ai) hf (aP.below ai) aQ;have aO:=fun W o c (ai:gi w.heap.size w W) (bm:jk o L.length c) (bi:oI W o L)=>G5 x _ L o c W (aq.below ai) bm a7 bi hc;rw[aD] at O aN;rw[O] at aO;have U:nB x a l=(F,er):=by unfold nB;rw[if_pos oM,aD,O]
  (try clear bF)
  (try clear bE)
  have a2:=gF aN;have a3:=gF aO;have ax:Hid (∀aT:jv W4,gi w.heap.size w aT.w):=gF fun aT=>iq E.below aT.h;clear aN aO O aD a7;have a6:=jv.cells W4;go_upto_region 5 with fail
  refine sf 8 7 2 #[ga,ga,ga,ga,ga,ga,ga,gk,gk,gk] #[ga,ga,ga,ga,ga,ga,ga,ga,gk,gk] (fun i=>if i=3 then gq (om L) else if i=4 then gq (lG F er) else gd) _ oP rfl oO oO oP oO rfl (fun _ _ _ _ ah=>ah) (sg _ _ rfl) ?_;simp only[gl,gu];refine LW.b 3 3 ?_;simp only[jC];repeat (go_big_quiet_step (fail))
  refine gh ?_;refine LW.z ?_ ?_;. intro aJ _;unfold ix;go_simp;exact rS (a2.o _ (ax.o _))
  intro X;simp only[gn,gU,om];refine LW.z ?_ ?_;. intro aJ a9;obtain⟨aX,bj⟩:jk (jK (X.x 0)) L.length (j3 (X.x 0))/\oI aJ.w (jK (X.x 0)) L:=(a9 3 oP).get (j:=3) rfl rfl;unfold ix;go_simp;exact qU (a3.o _ _ _ (ax.o _) aX bj)
  intro aS;simp only[gn,gU,lG];refine LW.b 3 8 ?_;simp only[jC];repeat (go_big_quiet_step (fail))
  refine gh ?_;refine LW.done ?_;intro aw g;have af:kG aw (aS.x 0) F:=g.get 4 rfl rfl;have ak:=g.below;obtain⟨bn,aI⟩:=nM (aS.x 0);rw[aI] at af |-;clear g aI T ar a4 bb a6 a2 a3 ax;have Y:=E.next ak;have al:=af;obtain⟨gp,hp,gc,I,gf,hf',rfl,-,-,-⟩:=af;obtain⟨ay,J⟩:=nM (jr aw (N+3) (gE ha F.gL.size) (ht gp F.gL.gG.length hp) (ht gc F.gL.gH.length I) (gE ha F.gL.left) (gE ha F.gI) (gE ha F.gJ) (gE ha F.gZ) (gE ha F.gN) (ht gf F.free.length hf'));have D:=Y.put aH al J;obtain⟨am,aR,X⟩:=Y.qC.c3;unfold ib at am;unfold jr lj at J;refine iG 8 fun K hK=>?_;go_simp;refine hK _ _ ?_;clear hK K;refine iG 9 fun K hK=>?_;go_simp;refine hK _ _ ?_;clear hK K;refine kS ?_;clear E Y ak al;go_upto_region 10 with fail
  clear J am aR X
 all_goals
  have bc:=D.box;have ao:=D.res;have bd:=D.qC;obtain⟨T,ar⟩:=bc.c2;obtain⟨a5,bK,bt⟩:=ao.c3;obtain⟨ag,bL⟩:=bd.c2;unfold ib at T ag;unfold jW at a5;cases br:(er !=0)
  case' false=>
   have aW:er=0:=by simpa using br
   obtain⟨G,H⟩:=nP F;have ap:R=(G,er):=by rw[<-aj,H];unfold nQ;rw[U,if_neg fun ah=>ah.1 aW]
   clear aW;have g:=D.new;obtain⟨Wf,h⟩:=nM (jr ay (N+2) (gE ha F.gL.size) (ht gp F.gL.gG.length hp) (ht gc F.gL.gH.length I) (gE ha F.gL.left) (gE ha F.gI) (gE ha F.gJ) (gE ha F.gZ) (gE ha F.gN) (ht gf F.free.length hf'));rw[<-H] at g h ag;obtain⟨k,r,s,u,y,B,Z,aa,ab,ac,ad,ae⟩: ∃k r s u y B,k=gp/\r=gc/\s=gf/\u=hp/\y=I/\B=hf':=⟨_,_,_,_,_,_,rfl,rfl,rfl,rfl,rfl,rfl⟩;rw[<-Z, <-aa, <-ab, <-ac, <-ad, <-ae] at g h ag;clear Z aa ab ac ad ae H;clear aj U aG aP aQ aq aU a' ba
  case' true=>
   have aW:er≠0:=by simpa using br
   cases bs:(er !=18)
   case' false=>
    have a8:er=18:=by simpa using bs
    obtain⟨G,H⟩:=nP F;have ap:R=(G,er):=by rw[<-aj,H];unfold nQ;rw[U,if_neg fun ah=>ah.2 a8]
    clear aW a8;have g:=D.new;obtain⟨Wf,h⟩:=nM (jr ay (N+2) (gE ha F.gL.size) (ht gp F.gL.gG.length hp) (ht gc F.gL.gH.length I) (gE ha F.gL.left) (gE ha F.gI) (gE ha F.gJ) (gE ha F.gZ) (gE ha F.gN) (ht gf F.free.length hf'));rw[<-H] at g h ag;obtain⟨k,r,s,u,y,B,Z,aa,ab,ac,ad,ae⟩: ∃k r s u y B,k=gp/\r=gc/\s=gf/\u=hp/\y=I/\B=hf':=⟨_,_,_,_,_,_,rfl,rfl,rfl,rfl,rfl,rfl⟩;rw[<-Z, <-aa, <-ab, <-ac, <-ad, <-ae] at g h ag;clear Z aa ab ac ad ae H;clear aj U aG aP aQ aq aU a' ba
   case' true=>
    have a8:er≠18:=by simpa using bs
    obtain⟨G,H⟩:=nP x;have ap:R=(G,er):=by rw[<-aj,H];unfold nQ;rw[U,if_pos ⟨aW,a8⟩]
    clear aW a8;have g:=D.val;obtain⟨Wf,h⟩:=nM (jr ay (N+2) (gE ha x.gL.size) (ht po x.gL.gG.length pc) (ht co x.gL.gH.length cc) (gE ha x.gL.left) (gE ha x.gI) (gE ha x.gJ) (gE ha x.gZ) (gE ha x.gN) (ht fo x.free.length fc));rw[<-H] at g h T;obtain⟨k,r,s,u,y,B,Z,aa,ab,ac,ad,ae⟩: ∃k r s u y B,k=po/\r=co/\s=fo/\u=pc/\y=cc/\B=fc:=⟨_,_,_,_,_,_,rfl,rfl,rfl,rfl,rfl,rfl⟩;rw[<-Z, <-aa, <-ab, <-ac, <-ad, <-ae] at g h T;clear Z aa ab ac ad ae H aj U aG aP aQ aq aU a' ba
  all_goals
   have be:Bx Wf (N+2) (ib G.gL k r u y G.gI G.gJ G.gZ G.gN s G.free.length B) 33:=by subst h;exact ao.kh
   have aK:gi w.heap.size w Wf:=by subst h;exact mV D.below oM
   have aL:kG Wf (hF (ib G.gL k r u y G.gI G.gJ G.gZ G.gN s G.free.length B)) G:=by subst h;exact g.only ao (kZ _ _ _ _ _ _ _ _ _ _ _ _ _ _ _) oF Only.nine
   have a1:=gF h;have aY:=gF aK;have aZ:=gF aL;have a0:=gF ap;clear h aK aL ap g;go_wp2;have aE:=a1.o;unfold jr lj at aE;rw[aE];have aF:=be.cell;unfold ib at aF;refine gj (v:= hG #[hF (ib G.gL k r u y G.gI G.gJ G.gZ G.gN s G.free.length B), gE ha er]) (by simp[gy,ho,go_sem,aF,ib]) rfl ?_;rw[a0.o];exact⟨_,rfl,aZ.o,aY.o⟩
open Go.RowKit Go.Shelf Go.Lib
theorem O0 (l:List Kv): ∀u∈gV l,∃s,u= hA s:=by
 intro u g;unfold gV at g;obtain⟨x,j,h⟩:=List.mem_flatten.1 g;obtain⟨k,_,rfl⟩:=List.mem_map.1 j;simp only[uI,j4,List.not_mem_nil,or_false] at h;rcases h with rfl|rfl<;>exact⟨_,rfl⟩
theorem jS.only {w w':gA} {o:Option Addr} {l:List Kv} {r:Nat} {j:Array gB} {t:TypeId} (h:jS w o l) (z:Bx w r j t) (v:sA j) (s:Only r w w'):jS w' o l:=by
 intro i k;obtain⟨b,B,e,hc,g⟩:=h i k;have y:b≠r:=by rintro rfl;rw[z.cell] at hc;have u:=(O0 l) _ (hd k);obtain⟨D,g⟩:=u;rw[g] at hc;exact v _ _ hc
 refine⟨b,B,e,?_,iU g s.1⟩;rw[<-hc];simp[World.cell?,s.2 b y]
section
variable {w:gA} {N yb:Nat} {po co fo lo qB gp gc gf:Option Addr} {pc cc fc lc dc hp hc hf:Nat} {W W':gA} {F:Ix}
end
theorem G8 (x:Ix) (ad ae:gB) (w:gA) (ag:rK w ad x) (r:rK w ae x):
  gM gm 19 #[ad,ae] w fun e w'=>e= .returned (hE ga)/\gi w.heap.size w w':=by
 obtain⟨po,pc,co,cc,fo,fc,rfl,J,X,T⟩:=ag;obtain⟨aa,Z,ac,ab,u,s,rfl,L,Y,U⟩:=r;obtain⟨N,O⟩:=nM w.heap.size;obtain⟨W2,y⟩:=nM ((w.alloc (hI (ib x.gL po co pc cc x.gI x.gJ x.gZ x.gN fo x.free.length fc) 33)).alloc (hI (ib x.gL aa ac Z ab x.gI x.gJ x.gZ x.gN u x.free.length s) 33));have j:Bx W2 N (ib x.gL po co pc cc x.gI x.gJ x.gZ x.gN fo x.free.length fc) 33:=by subst y O;exact(Bx.new w _ _).alloc _
 have k:Bx W2 (N+1) (ib x.gL aa ac Z ab x.gI x.gJ x.gZ x.gN u x.free.length s) 33:=by subst y O;exact Bx.ir _ _ _ _ oC
 have v:gi w.heap.size w W2:=by subst y;exact(Below.one w _).alloc oC _
 have G:=gF (DG x.gL _ _ W2 (J.below v) (L.below v));have H: ∀W,gi w.heap.size w W->gM gm 58 #[ht fo x.free.length fc, ht u x.free.length s] W fun e w'=>e= .returned (hE ga)/\gi W.heap.size W w':=by intro W r;have:=FJ x.free x.free fo u fc s W (lp.below T r) (lp.below U r) (sX X) (sX Y);rwa[show decide (x.free=x.free)=ga by simp] at this
 have E:=gF H;have ai:(x.gI==x.gI)=true:=oC
 have aj:(x.gJ==x.gJ)=true:=oC
 have ak:(x.gZ==x.gZ)=true:=oC
 have al:(x.gN==x.gN)=true:=oC
 clear H J L X Y T U;obtain⟨g,B⟩:=j.c2;obtain⟨h,D⟩:=k.c2;unfold ib at g h;go_enter func19,ntmps19;go_wp2_with fail;refine G.o.mono ?_;rintro e am ⟨rfl,z⟩;have j:=j.gD z;have k:=k.gD z;have I:=iq v z;clear g B h D G;obtain⟨g,B⟩:=j.c2;obtain⟨h,D⟩:=k.c2;unfold ib at g h;go_wp2_with fail;refine(E.o _ I).mono ?_;rintro e ao ⟨rfl,ah⟩;have af:=iq I ah;clear g B h D j k E;go_wp2;go_ret;exact⟨rfl,af⟩
end Go.Proofs.YtlefmmhlpgmbjaaGreat
