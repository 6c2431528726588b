import Derived.Test.YtlefmmhlpgmbjaaGreatR13
open Option renaming none->cN,some->cQ,getD_none->c5,isSome_some->di,isSome_none->dw
open Prod.mk renaming injEq->cO
open ByteArray renaming empty->cP
open Go.RowKit.Below renaming heap_setCell->cR,refl->dz
open Go.Proofs.Tryz renaming prog->cS,results17->cZ,underlying93->dm
open Go.RowKit renaming Below->cT
open Option.some renaming injEq->cU
open Nat renaming le_refl->cV,zero_le->dr
open Go renaming bodyPost_ret->cW,World->c4,results->c6,Calls->c7,wpQuiet_nil->da,Value->dt
open Bool renaming false->cX,true->cY,false_eq_true->dA
open List renaming take_succ_eq_append_getElem->c0,setIfInBounds_toArray->c8,getElem_mem->c9,take_of_length_le->db,length_nil->dc,getElem_set_self->dd,getElem_set_ne->dj,set_cons_zero->dk,flatten_cons->dn,length_set->ds,nodup_nil->du,getElem?_eq_getElem->dv,take_succ_cons->dx,flatten_append->dy
open Go.Value.slice renaming injEq->de
open Go.Value renaming ownBlock->df,slice->dq
open Go.AllReady renaming cons->dh
open Go.Act renaming put->dp
open Go.Proofs.Tryz
set_option maxRecDepth 100000
set_option maxHeartbeats 4000000
open Go.Value renaming int->gE,slice->hA,string->hE,bool->hF,agg->hG,tuple->hI
open Go.IntKind renaming i64->ha
open Go.Ending renaming returned->ht
open Go.Obj renaming cells->hM
namespace Go.Proofs.YtlefmmhlpgmbjaaGreat
open Go.RowKit
variable {l:List Kv}{k V n:Nat}{S:Nat->Prop}{KC:List (List dt)}{w:c4}{d:ik}{gI gJ:Int}{x:Ix}{key:ByteArray}
theorem NS (h:k<l.length) (key:ByteArray):l6 (l.take (k+1)) key=l6 (l.take k) key++(if l[k].1=key then [] else [l[k]]):=by
 rw[c0 h];unfold l6;rw[List.filter_append];congr 1
 by_cases a:l[k].1=key<;>simp[a]
theorem NT (l:List Kv) (key:ByteArray):(l6 l key).length<=l.length:=List.length_filter_le _ _
theorem Gz (n:Nd) (key:ByteArray) (po ko:Option Addr) (pc kc:Nat) (w:c4) (ar: ∀b,S b->b<w.heap.size) (aq:jf S w (il po pc ko kc n) n) (U:n.gC=[]) (am:n.ps.length<=3):
  c7 cS 147 #[hG (il po pc ko kc n).toArray, hE key] w (lv S w (ji key n)):=by
 obtain⟨a0,aw,D,aE,aF⟩:=info_parts sy;have E:=gF (gK aw (gK D (gK aE aF)));clear aw D aE aF;have aC:ji key n=kR (l6 n.ps key):=by rw[ji,if_pos U]
 rw[aC];have ax:n.gC.length=0:=by rw[U];rfl
 obtain⟨q,C⟩:=nM n.ps.length;obtain⟨P,aB⟩:=nM n.page;have ao:il po pc ko kc n=[hA po q pc, hA ko 0 kc, gE ha P]:=by unfold il;rw[ax,C,aB]
 obtain⟨O,ab,-,-⟩:=aq.parts;obtain⟨l,Z⟩:=nM n.ps;rw[Z] at C ab am O;rw[C] at am O;obtain⟨a6,J⟩:=nM (lv S w (kR (l6 n.ps key)));rw[ao,J];rw[Z] at J;have bd:=(ox O).1;obtain⟨g,I⟩:=nM w.heap.size;obtain⟨W0,M⟩:=nM ((w.alloc (hM #[hA po q pc, hA ko 0 kc, gE ha P] 95)).alloc (hM #[hA cN 0 0, hA cN 0 0, gE ha 0] 95));have an:cT w.heap.size w W0:=by subst M;exact(Below.one w _).alloc oC _
 have aJ:Bx W0 g #[hA po q pc, hA ko 0 kc, gE ha P] 95:=by subst M I;exact(Bx.new w _ _).alloc _
 have a4:Bx W0 (g+1) #[hA cN 0 0, hA cN 0 0, gE ha 0] 95:=by subst M I;exact Bx.ir _ _ _ _ oC
 have D:W0.heap.size=g+1+1:=by subst M I;simp
 have ah:=gF C;have aN:=gF J;have ai:=gF (gK ab ar);have ag:=gF I;have af:=gF an;have T:=gF D;obtain⟨ak,aG⟩:=aJ.c2;clear aC ax aB ao aq O ab U J an C D ar Z;go_enter func147,ntmps147;go_wp2_with fail
 go_loopw [5,6] (fun v ac wr=> ∃(k:Nat) (e:Option Addr) (c:Nat),k<=q/\ac= gE ha k/\v= hA e (l6 (l.take k) key).length c/\wr.ownsRow W0.heap.size 77 2 (hA e (l6 (l.take k) key).length c) (l6 (l.take k) key).length (gV (l6 (l.take k) key))/\
  Bx wr g #[hA po q pc, hA ko 0 kc, gE ha P] 95/\Bx wr (g+1) #[hA cN 0 0, hA cN 0 0, gE ha 0] 95/\cT W0.heap.size W0 wr) (fun _ ac _=>q - (intOf ac).toNat)
 case atStart=>exact⟨0,cQ ⟨W0.heap.size,0,cN⟩,0,oM,rfl,by simp[l6],by simpa[l6,gV] using tu W0 W0.heap.size _ 77 2 rfl (cV _),aJ.alloc _,a4.alloc _,Below.one _ _⟩
 case round=>
  clear ak aG;obtain⟨k,e,c,bc,rfl,rfl,y,ad,R,h⟩:=hrel;have aZ:=h.size;obtain⟨ak,aG⟩:=ad.c2;obtain⟨L,t⟩:=nM (l6 (l.take k) key);have aV:L.length<=k:=by
   rw[<-t];have:=NT (l.take k) key;have ba:(l.take k).length<=k:=by rw[List.length_take];omega
   omega
  rw[t] at y |-;obtain⟨m,N⟩:=nM L.length;rw[N] at y aV |-;have s:=gF N;have aL:=gF t
  by_cases aW:k<q
  .
   have az:k<l.length:=by rw[ah.o];exact aW
   obtain⟨aU,bg,rfl,av,G,H⟩:=xq ai.o.1 az;have j:=NS az key;obtain⟨⟨a,f⟩,ay⟩: ∃p,l[k]=p:=⟨_,rfl⟩;rw[ay] at G H j;simp only at G H j;rw[t] at j;have Y:=ai.o.2 aU av;have i:=iq af.o h;have a8:=(i.cell Y).trans G;have a9:=(i.cell Y).trans H;have bb:=iU Y i.size;have F:=gF y;have r:=gF (gK ad (gK R h));clear N t ay G H av y ad R h i
   by_cases u:a=key
   .
    have z:Hid (l6 (l.take (k+1)) key=L):=gF (by rw[j,if_pos u,List.append_nil]);have a3:(a.toList==key.toList)=true:=by rw[u];simp
    clear j u;go_wp2;go_roundw;case rel=>exact⟨k+1,e,c,oM,oQ,by rw[z.o,s.o],by rw[z.o,s.o];exact F.o,r.o.1,r.o.2.1,r.o.2.2⟩
    case measure=>simp[intOf];omega
   have z:Hid (l6 (l.take (k+1)) key=L++[(a,f)]):=gF (by rw[j,if_neg u]);have a3:(a.toList==key.toList)=false:=by rw[beq_eq_false_iff_ne];exact fun B=>u (oB B)
   have aa:=F.o.alloc (hM #[hE a, hE f] 77);have aK:Hid (∀aI∈[Value.string a,Value.string f],aI.oneCell'=cY):=gF (by intro aI aD;simp at aD;rcases aD with rfl|rfl<;>rfl)
   have aO:Hid (gO (· =wr.heap.size) (wr.alloc (.cells #[.string a, .string f] 77)) (cQ ⟨wr.heap.size,0,cN⟩) [.string a, .string f]):=gF (gO.bx (Bx.new wr #[.string a, .string f] 77));clear j u;go_wp2_with (at_builtin;refine o8 rfl _ _ 41 rfl W0.heap.size 77 a0 _ 2 32 underlying41 E.o.1 E.o.2.1 E.o.2.2.1 E.o.2.2.2 rfl oF (.slice e m c) m (gV L) rfl aa (cQ ⟨wr.heap.size,0,cN⟩) 1 1 [.string a, .string f] rfl (by intro B;cases B) rfl aO.o aK.o (by unfold maxLen;omega) oM oN ?_;intro bh bi aA X;obtain⟨a2,aQ,rfl⟩:=pD aA);go_roundw;case rel=>
    have al:(L++[(a,f)]).length=m+1:=by rw[iI,s.o];rfl
    have aT:gV (L++[(a,f)])=gV L++[hE a, hE f]:=by rw[sw];rfl
    have ae:=T.o;have aH: ∀b,b<W0.heap.size->cQ b≠(dq e m c).ownBlock:=fun b au B=>by have:=(aa.lt b B.symm).1;omega
    exact⟨k+1,a2,aQ,oM,oQ,by rw[z.o,al],by rw[z.o,al,aT];exact aA,(r.o.1.alloc _).grown X (aH _ oM),(r.o.2.1.alloc _).grown X (aH _ oM),Below.jq (r.o.2.2.alloc aZ _) aa X oN⟩
   case measure=>simp[intOf];omega
  obtain rfl:k=q:=oM
  have ap:l6 l key=L:=by rw[<-aL.o,db (by rw[ah.o];exact cV _)]
  have aM:=gF ap;have F:=gF y;have a5:=gF h;obtain⟨a7,be,a'⟩:=R.c3;have ae:=T.o;have i:=iq af.o h;have A:=gF (mQ R (hA e m c) (hA cN 0 0) (gE ha 0) i (by rw[ag.o];omega));obtain⟨aj,W⟩:=nM (((wr.setCell ⟨g+1,0,cN⟩ (hA e m c)).setCell ⟨g+1,1,cN⟩ (hA cN 0 0)).setCell ⟨g+1,2,cN⟩ (gE ha 0));rw[W] at A;have aP:=gF W;clear W ap y h t N i ae;go_wp2;rw[aP.o];have aR:=A.o.box.cell;refine cW (v:= hG #[hA e m c, hA cN 0 0, gE ha 0]) (by simp[c6,results147,go_sem,aR]) rfl ?_;rw[<-aN.o,aM.o];obtain⟨a1,c',aS,aY,aX,-⟩:=nC F.o;obtain⟨rfl,rfl⟩:e=a1/\c=c':=by simpa using aS
  have bj:=A.o.size;have ae:=T.o;have bf:=ag.o;refine⟨A.o.below,e,c,cN,0,by rw[z8,s.o],?_⟩;rw[z8];have:=jf.leaf (S:=fun b=>S b\/(w.heap.size<=b/\b<aj.heap.size)) (w:=aj) (po:=e) (pc:=c) (ps:=L) (page:=0) (by rw[s.o];exact aY) ((aX.same' fun b au=>A.o.same b oM).mono fun b au=> .inr ⟨oM,oM⟩);rw[s.o] at this |-;exact this
theorem Cq (key:ByteArray) (n:Nd):(ji key n).page=0:=by
 by_cases a:n.gC=[]
 rw[ji,if_pos a];rfl;rw[xc a];rfl
theorem NU (h: ∀x∈KC,x.length=3) (e:k<KC.length) (v0 v1 v2:dt):(KC.set k [v0,v1,v2]).flatten=((KC.flatten.set (k * 3) v0).set (k * 3+1) v1).set (k * 3+2) v2:=by
 induction KC generalizing k with
 | nil=>simp at e
 | cons x l g=>
  obtain⟨a,b,c,rfl⟩: ∃a b c,x=[a,b,c]:=by
   have:=h x oC
   match x,this with
   | [a,b,c],_=>exact⟨a,b,c,rfl⟩
  cases k with
  | zero=>rfl
  | succ k=>have:=g (fun i f=>h i (by simp[f])) (k:=k) (by simpa using e);rw[List.set_cons_succ,dn,this,dn,show(k+1) * 3=k * 3+1+1+1 by omega];rfl
theorem iM.stored {T:Nat->Prop} {b0 a f:Nat} {l:List Nd} (p:KC.length=l.length) (t:w.ownsRow b0 95 3 (hA (cQ ⟨a,0,cN⟩) l.length f) l.length KC.flatten)
  (q: ∀(i:Nat) (h:i<l.length) (r:i<KC.length),jf S w KC[i] l[i]) (g: ∀b,S b->T b/\b≠a) (A:k<l.length) {x:Nd} {v0 v1 v2:dt} (u:jf S w [v0,v1,v2] x):
  iM T b0 (((w.setCell ⟨a,k * 3,cN⟩ v0).setCell ⟨a,k * 3+1,cN⟩ v1).setCell ⟨a,k * 3+2,cN⟩ v2) (hA (cQ ⟨a,0,cN⟩) l.length f) (l.set k x):=by
 have s:=s3 p q;have v:=(t.stored (k * 3) v0).1;have y:=(v.stored (k * 3+1) v1).1;have z:=(y.stored (k * 3+2) v2).1;have o: ∀b,S b->(((w.setCell ⟨a,k * 3,cN⟩ v0).setCell ⟨a,k * 3+1,cN⟩ v1).setCell ⟨a,k * 3+2,cN⟩ v2).heap[b]?=w.heap[b]?:=fun b e=>by have j:=(g b e).2;exact(cR _ ⟨a,k * 3+2,cN⟩ _ _ j).trans ((cR _ ⟨a,k * 3+1,cN⟩ _ _ j).trans (cR _ ⟨a,k * 3,cN⟩ _ _ j))
 have m: ∀b,S b->T b/\(dq (cQ ⟨a,0,cN⟩) l.length f).ownBlock≠cQ b:=fun b e=>⟨(g b e).1,fun c=>(g b e).2 (by simp[df] at c;exact c.symm)⟩;refine⟨KC.set k [v0,v1,v2],by simp[p],by rw[NU s oM,ds];exact z,fun i h r=>?_⟩;rw[ds] at h
 by_cases c:i=k
 subst c;rw[dd,dd];exact u.same o m;rw[dj (Ne.symm c),dj (Ne.symm c)];exact(q i h oM).same o m
theorem NV (key:ByteArray): ∀(n:Nd) {a b h:Nat} (po ko:Option Addr) (pc kc:Nat) (w:c4) {S:Nat->Prop},(∀b,S b->b<w.heap.size)->jf S w (il po pc ko kc n) n->Tm a b h n->2<=b->jZ n.iv->
  c7 cS 147 #[hG (il po pc ko kc n).toArray, hE key] w (lv S w (ji key n)):=by
 intro n
 induction n using Nd.pW with
 | h n bQ=>
 intro a b h po ko pc kc w S f B aG cD aU
 by_cases p:n.gC=[]
 have cx:=(aG.h0 p).px;exact Gz n key po ko pc kc w f B p cx.2.2.1;obtain⟨Y,rfl⟩:=aG.hs p;obtain⟨-,-,cn,bt,H⟩:=aG.lK;have a1:=p7 key p;have bP:=Gb H (by rw[<-Nd.iu p];exact aU);have bH: ∀k∈n.gC,k.first=true:=fun k z=>((H k z).qN oF oF).first;obtain⟨cv,bI,bJ,bK,bL⟩:=info_parts wC;have am:=gF (gK bI (gK bJ (gK bK bL)));clear bI bJ bK bL;have aB:=xc (key:=key) p;obtain⟨k,z⟩:=nM (ly n.gC key);obtain⟨c,ax⟩:=nM (n.gC[ly n.gC key]'a1);rw[ax,z] at aB;have X:c∈n.gC:=by rw[<-ax];exact c9 _
 have aV:=Gi aU p X;have Z:=fun po ko pc kc an S f B=>bQ c X (a:=2) (b:=4) (h:=Y) po ko pc kc an (S:=S) f B (H c X) oF aV;have a6:=(xT (key:=key) oF oF oF (H c X) aV).1;have ad:=Cq key c;obtain⟨P,bE⟩:=nM (ji key c);rw[bE] at aB a6 ad Z;obtain⟨b8,bC⟩:=nM P.ps.length;obtain⟨b9,bD⟩:=nM P.gC.length;have aW:=vw ad;rw[bC,bD] at aW;unfold lv at Z;simp only[aW] at Z;have bF: ∀Y:k<n.gC.length,n.gC[k]=c:=by rw[<-z];exact fun _=>ax
 have F:k<n.gC.length:=by rw[<-z];exact a1
 obtain⟨cq,cs,bO,aR⟩:=B.parts;have az:=fun an (e:cT w.heap.size w an)=>Ge n key po ko pc kc an ((B.keep f e).c fun b h=>iU (f b h) e.size) bH bP p;rw[z] at az;obtain⟨L,ar⟩:=nM (n.gC.set k P);have aP:L.length=n.gC.length:=by rw[<-ar,ds]
 have bA:(∀(aD:Nat) (aY:aD<L.length),aD≠k->Tm 2 4 Y L[aD])/\ ∀aY:k<L.length,Tm 1 3 Y L[k]:=by subst ar;refine⟨fun aD aY ac=>?_,fun aY=>?_⟩;rw[dj (Ne.symm ac)];exact H _ (c9 _);rw[dd];exact a6
 obtain⟨A,aa⟩:=nM n.gC.length;obtain⟨bb,bM⟩:=nM n.ps.length;obtain⟨ba,ad⟩:=nM n.page;have aN:il po pc ko kc n=[hA po bb pc, hA ko A kc, gE ha ba]:=by unfold il;rw[aa,bM,ad]
 obtain⟨cA,aS⟩:=nM (lv S w (ji key n));rw[aN] at az;rw[aN,aS];have cp:=(ox bO).1;rw[aa] at cp bt F bO aP cn;obtain⟨ci,cw,-,-,-,-,co,cE,-⟩:=aR.get (i:=k) (by rw[aa];exact F);obtain⟨j,au⟩:=nM w.heap.size;obtain⟨W0,W⟩:=nM ((w.alloc (hM #[hA po bb pc, hA ko A kc, gE ha ba] 95)).alloc (hM #[hA cN 0 0, hA cN 0 0, gE ha 0] 95));have aM:cT w.heap.size w W0:=by subst W;exact(Below.one w _).alloc oC _
 have bd:Bx W0 j #[hA po bb pc, hA ko A kc, gE ha ba] 95:=by subst W au;exact(Bx.new w _ _).alloc _
 have bV:Bx W0 (j+1) #[hA cN 0 0, hA cN 0 0, gE ha 0] 95:=by subst W au;exact Bx.ir _ _ _ _ oC
 have a7:W0.heap.size=j+1+1:=by subst W au;simp
 have bj:=gF (az W0 aM);have bk:=gF Z;have b7:=gF aB;have O:=gF aa;have b3:=gF aS;have aH:=gF aM;have b2:=gF aR;have b6:=gF bF;have r:=gF (gK ar (gK aP bA));have bn:=gF a7;have bg:=gF au;have bh:=gF bV;obtain⟨aK,a8⟩:=bd.c2;subst co;clear az Z aB aS bM ad aN p B cs cq aU aM aR bF z ax X bP bH H aG bQ a1 aV a6 aW bC bD bE ar aP bA bV a7 aa;go_enter func147,ntmps147;have cF:((A:Int)==0)=false:=oN
 go_wp2_with fail;refine bj.o.mono ?_;rintro g bS ⟨rfl,s⟩;have R:=iq aH.o s;have bU:=bd.gD s;clear aK a8 bd bj W;obtain⟨aK,a8⟩:=bU.c2;obtain⟨KC,af,bR,aE⟩:=b2.o.keep f (R.alloc R.size (hM #[] 95));have aO:=s3 af aE;have a3:=tu bS W0.heap.size _ 95 3 rfl s.size;have aq:=R.alloc R.size (hM #[] 95);have ak:=gF (gK af (gK aE aO));have bG:KC.flatten.length=A * 3:=by rw[vr aO,af,O.o]
 have al:=gF (gK bR (gK bG (wD af aE)));clear bR bG aE af aO;go_upto_region 11 with (at_builtin;refine zZ rfl _ _ 93 rfl W0.heap.size 95 cv _ 3 56 dm am.o.1 am.o.2.1 am.o.2.2.1 am.o.2.2.2 rfl oF (.slice (cQ ⟨bS.heap.size,0,cN⟩) 0 0) 0 [] rfl a3 (cQ ⟨ci,cw,cN⟩) A kc KC.flatten rfl (by intro g;cases g) al.o.2.1 al.o.1 al.o.2.2 (by unfold maxLen;omega) oM (by simp;have:=s.size;omega) ?_;intro cy w3 q aA cm)
 obtain⟨G,cap,rfl⟩: ∃G cap,cy= hA (cQ ⟨G,0,cN⟩) (0+A) cap:=by rcases q.2 with⟨-,g⟩|⟨G,cap,_,g,-⟩;omega;exact⟨G,cap,g⟩
 rw[Nat.zero_add,List.nil_append] at q;rw[Nat.zero_add];have T:=q.lt G rfl;have ae:=aH.o.size;have t:cT w.heap.size w w3:=Below.jq aq (qL a3 ae) aA aq.size;have ai:Bx w3 (j+1) #[hA cN 0 0, hA cN 0 0, gE ha 0] 95:=((bh.o.gD s).alloc _).grown aA (fun g=>by have:=bh.o.lt;have:=s.size;simp[df] at g;omega);have E: ∀(i:Nat) (h:i<n.gC.length) (ap:i<KC.length),jf S w3 KC[i] n.gC[i]:=fun i h ap=>(ak.o.2.1 i h ap).same (fun b e=>aA.block b (by have:=f b e;have:=aq.size;omega) fun g=>by have:=f b e;have:=s.size;simp[df] at g;omega) fun b k=>k;have aZ:k<KC.length:=by rw[ak.o.1,O.o];exact F
 have U:=E k (by rw[O.o];exact F) aZ;rw[b6.o] at U;obtain⟨a',aJ,bc,aL,aX⟩:=U.cells;have D: ∀J,J<3->w3.cell? ⟨G,k * 3+J,cN⟩=(il a' aJ bc aL c)[J]?:=fun J cr=>by rw[q.cellAt _ oM,kL ak.o.2.2 k J cr,dv aZ];show KC[k][J]?=_;rw[aX]
 rw[aX] at U;have ay:=bk.o a' bc aJ aL w3 S (fun b h=>by have:=f b h;have:=t.size;omega) U;unfold il at ay D;obtain⟨bX,bu⟩:=nM c.ps.length;obtain⟨bY,bv⟩:=nM c.gC.length;obtain⟨bZ,bw⟩:=nM c.page;rw[bu,bv,bw] at ay D;have bp:w3.cell? ⟨G,k * 3,cN⟩=cQ (hA a' bX aJ):=D 0 oF;have bq:w3.cell? ⟨G,k * 3+1,cN⟩=cQ (hA bc bY aL):=D 1 oF;have br:w3.cell? ⟨G,k * 3+2,cN⟩=cQ (gE ha bZ):=D 2 oF;have aF:G<w3.heap.size:=T.2;have bi:=gF ay;have b0:=gF (gK q (gK t (gK ai (gK E (gK T ae)))));clear ay D U aX bu bv bw q t ai E T ae aZ bU aK a8 a3 R aq aA cm s bk al;go_wp2_with fail;refine bi.o.mono ?_;rintro g ah ⟨m,ca,cb,cc,cd,rfl,bB⟩;obtain⟨q,t,ai,E,T,ae⟩:=b0.o;have a4:=nD q m;have ce:=(m.cell aF).trans bp;have cf:=(m.cell aF).trans bq;have cg:=(m.cell aF).trans br;have ch:=a4.frozenAt;have cu:G<ah.heap.size:=by have:=m.size;omega
 have cz:=m.size;have ct:=t.size;have bx:=iq t m;obtain⟨w5,I⟩:=nM (((ah.setCell ⟨G,k * 3,cN⟩ (hA ca b8 cb)).setCell ⟨G,k * 3+1,cN⟩ (hA cc b9 cd)).setCell ⟨G,k * 3+2,cN⟩ (gE ha 0));have a5:iM (fun b=>S b\/(w3.heap.size<=b/\b<ah.heap.size)) W0.heap.size w5 (hA (cQ ⟨G,0,cN⟩) n.gC.length cap) (n.gC.set k P):=by rw[<-I];refine iM.stored (S:=fun b=>S b\/(w3.heap.size<=b/\b<ah.heap.size)) ak.o.1 (by rw[O.o];exact a4) (fun i h ap=>((E i h ap).keep (fun b h=>by have:=f b h;omega) m).up fun b h=> .inl h) (fun b e=>⟨e,?_⟩) (by rw[O.o];exact F) bB;rintro rfl;rcases e with h|h;have:=f b h;omega;omega
 have u:cT w.heap.size w w5:=by rw[<-I];exact iT (iT (iT bx oM) oM) oM
 have bW:w5.heap.size=ah.heap.size:=by rw[<-I];simp
 have aj:Bx w5 (j+1) #[hA cN 0 0, hA cN 0 0, gE ha 0] 95:=by
  have ac:j+1≠G:=by have:=bn.o;omega
  rw[<-I];exact(cR _ ⟨G,k * 3+2,cN⟩ _ _ ac).trans ((cR _ ⟨G,k * 3+1,cN⟩ _ _ ac).trans ((cR _ ⟨G,k * 3,cN⟩ _ _ ac).trans (ai.gD m)))
 rw[r.o.1] at a5;obtain⟨cL,cB,bs,bN,av⟩:=a5.done;simp only[de] at bs;obtain⟨rfl,-,rfl⟩:=bs;have av:jw (fun b=>S b\/(W0.heap.size<=b/\b<w5.heap.size)) w5 (cQ ⟨G,0,cN⟩) L:=av.up fun b e=>by rcases e with (h|h)|h;exact .inl h;exact .inr oM;exact .inr oM
 have y: ∀b,(S b\/(W0.heap.size<=b/\b<w5.heap.size))->b<w5.heap.size:=fun b e=>by rcases e with h|h;have:=f b h;omega;exact h.2
 have a0:k<L.length:=by rw[r.o.2.1];exact F
 have ab:=NR L k Y (cQ ⟨G,0,cN⟩) cap w5 y bN av a0 (by rw[r.o.2.1];omega) (by rw[r.o.2.1];exact bt) r.o.2.2.1 (r.o.2.2.2 a0);rw[r.o.2.1] at ab;unfold oq at ab;obtain⟨M,aQ⟩:=nM (kK L k);obtain⟨a9,a2⟩:=nM M.length;rw[aQ,a2] at ab;have bl:=gF ab;have bm:=gF I;have b5:Hid (W0.heap.size<=w5.heap.size):=gF oM;have bf:=gF (gK u (gK aj y));have aI:=gF (gK aQ a2);clear ab I u aj y aQ a2 av bN a5 a0 a4 q bx t ai E T ae bB m cz bW ct bp bq br aF bi;go_wp2_with fail;rw[bm.o];refine bl.o.mono ?_;rintro g bT ⟨C,ag,ao,rfl,aC,aw⟩;obtain⟨u,aj,y⟩:=bf.o;have bz:=iq u C;have be:=aj.gD C;obtain⟨bo,cK,cC⟩:=be.c3;have cl:w.heap.size<=j+1:=by rw[bg.o];omega
 have N:=gF (mQ be (hA cN 0 0) (hA ag a9 ao) (gE ha 0) bz cl);obtain⟨b',aT⟩:=nM (((bT.setCell ⟨j+1,0,cN⟩ (hA cN 0 0)).setCell ⟨j+1,1,cN⟩ (hA ag a9 ao)).setCell ⟨j+1,2,cN⟩ (gE ha 0));rw[aT] at N;have b4:=gF aT;have b1:=gF (gK aC (gK aw (gK C y)));clear aT aC aw C y u aj bz be ce cf cg ch cu bl bm;go_wp2;rw[b4.o];have bo:=N.o.box.cell;refine cW (v:= hG #[hA cN 0 0, hA ag a9 ao, gE ha 0]) (by simp[c6,results147,go_sem,bo]) rfl ?_;rw[<-b3.o,b7.o];obtain⟨aC,aw,C,y⟩:=b1.o;have cG:=bg.o;have cJ:=bn.o;have cI:=N.o.size;have u:=bf.o.1;have bW:=u.size;have cM:=C.size;have cj:kt (kK (n.gC.set k P) k)= .mk [] M 0:=by rw[r.o.1,aI.o.1];rfl
 rw[cj];refine⟨N.o.below,cN,0,ag,ao,by unfold il;simp only[Nd.ps,Nd.gC,Nd.page,aI.o.2];rfl,?_⟩;refine jf.of 0 (.inl ⟨rfl,rfl,rfl⟩) (gO.nil _ _ _) (by rw[aI.o.2];exact aC) ?_;have a7:=aH.o.size;have cH:=b5.o;have ck:jw (fun b=>(S b\/(W0.heap.size<=b/\b<w5.heap.size))\/(w5.heap.size<=b/\b<bT.heap.size)) b' ag M:=aw.same fun b e=>N.o.same b (by
  rcases e with (h|h)|h;. have:=f b h;omega
  . omega
  . omega)
 exact ck.up fun b e=>by rcases e with (h|h)|h;exact .inl h;exact .inr oM;exact .inr oM
def Nd.nr (o:Option Nd):Nd:=o.getD (kR [])
theorem NW (o:Option Nd) (key:ByteArray):jx (cQ (Nd.nr o)) key=jx o key:=by
 cases o with
 | none=>
  have a:ji key (Nd.nr cN)=kR []:=by rw[ji,if_pos (show(Nd.nr cN).gC=[] from rfl)];rfl
  unfold jx;simp only[a];rfl
 | some n=>rfl
theorem NX (n:Nd) (key:ByteArray):(∃h:0<(ji key n).gC.length,(ji key n).gC.length=1/\jx (cQ n) key=cQ (ji key n).gC[0])\/
  ((ji key n).gC.length≠1/\Nd.nr (jx (cQ n) key)=ji key n/\(jx (cQ n) key).isSome=decide (0<(ji key n).size)):=by
 have g:=Cq key n;unfold jx;simp only;generalize ji key n=r at *;obtain⟨a,i,b⟩:=r;cases i
 case' nil=>
  right;refine⟨by simp[Nd.gC],?_⟩;simp only[Nd.gC]
  by_cases h:(Nd.mk a [] b).size=0
  rw[if_pos h];have f:a=[]:=by
   have:a.length=0:=by simpa[Nd.size,Nd.ps,Nd.gC] using h
   exact List.length_eq_zero_iff.1 this
  have e:b=0:=g;subst f e;exact⟨rfl,rfl⟩
 rotate_left
 case' cons c r=>
  cases r
  case' nil=>exact .inl ⟨by simp[Nd.gC],by simp[Nd.gC],rfl⟩
  case' cons d r=>right;refine⟨by simp[Nd.gC],?_⟩;simp only[Nd.gC];have h:(Nd.mk a (c::d::r) b).size≠0:=by simp[Nd.size,Nd.gC]
 all_goals rw[if_neg h];exact⟨rfl,by rw[decide_eq_true oM];rfl⟩
def rW (S:Nat->Prop) (w:c4) (o:Option Nd) (e:Ending) (w':c4):Prop:=
 cT w.heap.size w w'/\ ∃po pc ko kc,e= ht (hI #[hG (il po pc ko kc (Nd.nr o)).toArray, hF o.isSome])/\jf (fun b=>S b\/(w.heap.size<=b/\b<w'.heap.size)) w' (il po pc ko kc (Nd.nr o)) (Nd.nr o)
theorem GA (n:Nd) (key:ByteArray) (po ko:Option Addr) (pc kc:Nat) (w:c4) (a0: ∀b,S b->b<w.heap.size)
  (Z: ∀U,cT w.heap.size w U->c7 cS 147 #[hG (il po pc ko kc n).toArray, hE key] U (lv S U (ji key n))) (l1:(ji key n).ps.length<=1000) (l2:(ji key n).gC.length<=1000):
  c7 cS 113 #[hG (il po pc ko kc n).toArray, hE key] w (rW S w (jx (cQ n) key)):=by
 obtain⟨bq,aA⟩:=nM (rW S w (jx (cQ n) key));rw[aA];have aR:=gF aA;have aj:=gF (NX n key);obtain⟨aK,N⟩:=nM n.ps.length;obtain⟨aH,a6⟩:=nM n.gC.length;obtain⟨aJ,a7⟩:=nM n.page;have ay:il po pc ko kc n=[hA po aK pc, hA ko aH kc, gE ha aJ]:=by unfold il;rw[N,a6,a7]
 have Y:=vw (Cq key n);obtain⟨r,a8⟩:=nM (ji key n);rw[a8] at aj Z l1 l2 Y;obtain⟨P,aC⟩:=nM r.ps.length;obtain⟨B,ah⟩:=nM r.gC.length;have aF:=fun bh b C d U=>Gn r bh b C d U l1 l2;rw[aC,ah] at Y;unfold lv at Z;simp only[ay,Y] at Z aF;rw[ay];obtain⟨g,ag⟩:=nM w.heap.size;obtain⟨W0,W⟩:=nM ((w.alloc (hM #[hA po aK pc, hA ko aH kc, gE ha aJ] 95)).alloc (hM #[hA cN 0 0, hA cN 0 0, gE ha 0] 95));have aw:cT w.heap.size w W0:=by subst W;exact(Below.one w _).alloc oC _
 have aM:Bx W0 g #[hA po aK pc, hA ko aH kc, gE ha aJ] 95:=by subst W ag;exact(Bx.new w _ _).alloc _
 have a':Bx W0 (g+1) #[hA cN 0 0, hA cN 0 0, gE ha 0] 95:=by subst W ag;exact Bx.ir _ _ _ _ oC
 have a9:W0.heap.size=g+1+1:=by subst W ag;simp
 have aT:=gF (Z W0 aw);have be:=gF aF;have ai:=gF aw;have bf:=gF a9;have T:=gF ag;have af:=gF (gK aC (gK ah Y));have bc:=gF a';obtain⟨u,y⟩:=aM.c2;clear aA N a6 a7 ay Y a8 aC aF Z aw a' a9 l1;rw[ah] at l2;clear ah;go_enter func113,ntmps113;go_wp2_with fail;refine aT.o.mono ?_;rintro an bm ⟨X,p,q,s,t,rfl,aY⟩;have aN:=aM.gD X;clear u y W aM aT;obtain⟨u,y,bi⟩:=aN.c3;have aX:=iq ai.o X;have bo:=X.size;have aQ:=bf.o;have aI:=T.o;obtain⟨c,aG⟩:=nM (((bm.setCell ⟨g,0,cN⟩ (hA p P q)).setCell ⟨g,1,cN⟩ (hA s B t)).setCell ⟨g,2,cN⟩ (gE ha 0));have f:=mQ aN (hA p P q) (hA s B t) (gE ha 0) aX oM;rw[aG] at f;have aO:=f.box;have aP:Bx c (g+1) #[hA cN 0 0, hA cN 0 0, gE ha 0] 95:=(f.same _ oM).trans (bc.o.gD X);have ba:=f.size;have aZ:jf (fun b=>(S b\/(W0.heap.size<=b/\b<c.heap.size))) c [hA p P q, hA s B t, gE ha 0] r:=aY.same (fun b h=>f.same b (by
  rcases h with a|a;. have:=a0 b a;omega
  . omega)) fun b h=>by rw[ba];exact h
 have j:=gF (gK f.below (gK aO (gK aP aZ)));have aU:=gF aG;have a1: ∀b,(S b\/(W0.heap.size<=b/\b<c.heap.size))->b≠g/\b≠g+1/\b<c.heap.size:=fun b h=>by rcases h with a|a;have:=a0 b a;omega;omega
 have ae:=gF a1;have aV:Hid (W0.heap.size<=c.heap.size):=gF oM;clear f aG aZ aY X aX bo ba aN aQ aI a1;go_upto_region 2 with fail
 rw[aU.o];clear u y bi aU;obtain⟨u,y⟩:=aO.c2;obtain⟨L,O,M⟩:=aP.c3;clear aO aP
 by_cases aW:B=1
 .
  subst aW;have az:=(by rw[af.o.2.2];exact j.o.2.2.2:jf (fun b=>(S b\/(W0.heap.size<=b/\b<c.heap.size))) c (il p q s t r) r).parts;have aB:=af.o.2.1;have a5:0<r.gC.length:=oM
  obtain⟨bj,bt,J,D,I,E,rfl,a4,ao,ap,aq,hK⟩:=az.2.2.2.get a5;simp only[Nat.zero_mul,Nat.add_zero] at ao ap aq;have br:=(ae.o bj a4).2.2;have bk:=(ox az.2.2.1).1;rw[aB] at bk;have e:jx (cQ n) key=cQ r.gC[0]:=by rcases aj.o with⟨_,_,a⟩|⟨a,_⟩;exact a;exact absurd aB a
  obtain⟨C,a2⟩:=nM (r.gC[0]);rw[a2] at e ao ap aq hK;obtain⟨ab,ar⟩:=nM C.ps.length;obtain⟨ac,au⟩:=nM C.gC.length;obtain⟨ad,av⟩:=nM C.page;have G:il J D I E C=[hA J ab D, hA I ac E, gE ha ad]:=by unfold il;rw[ar,au,av]
  rw[ar] at ao;rw[au] at ap;rw[av] at aq;have bb:=gF (gK hK (gK e G));clear az aB hK e G ar au av a2 a4 a5;have f:=mQ j.o.2.2.1 (hA J ab D) (hA I ac E) (gE ha ad) j.o.1 (by have:=T.o;omega);obtain⟨bg,F⟩:=nM (((c.setCell ⟨g+1,0,cN⟩ (hA J ab D)).setCell ⟨g+1,1,cN⟩ (hA I ac E)).setCell ⟨g+1,2,cN⟩ (gE ha ad));rw[F] at f;have z:=gF f;have ak:=gF F;clear f F;go_wp2;rw[ak.o];have am:=z.o.box.cell;refine cW (v:= hI #[hG #[hA J ab D, hA I ac E, gE ha ad], hF cY]) (by simp[c6,results113,go_sem,am];try exact aS.o) rfl ?_;rw[<-aR.o];have bp:=z.o.size;have bn:=aV.o;have aI:=T.o;have aQ:=ai.o.size;obtain⟨hK,e,G⟩:=bb.o;rw[e];refine⟨z.o.below,J,D,I,E,by show _=Ending.returned (hI #[hG (il J D I E C).toArray, hF cY]);rw[G],?_⟩;exact hK.same (fun b h=>z.o.same b (ae.o b h).2.1) fun b h=>by rcases h with a|a;exact .inl a;exact .inr ⟨oM,oM⟩
 have bs:((B:Int)==1)=false:=oN
 obtain⟨aL,aE⟩:=nM r.size;have e:Nd.nr (jx (cQ n) key)=r/\(jx (cQ n) key).isSome=decide (0<aL):=by rcases aj.o with⟨_,a,_⟩|⟨_,a⟩;rw[af.o.2.1] at a;exact absurd a aW;rw[aE] at a;exact a
 have aD:=be.o;rw[aE] at aD;have al:=gF aD;obtain⟨GC,H⟩:=nM (decide ((0:Int)<(aL:Int)));have N:decide (0<aL)=GC:=by rw[<-H];simp
 rw[N] at e;have bd:=gF e;have aS:=gF N;clear e aD aE N;go_upto_region 4 with fail
 refine qm #[cX,cX,cX,cX,cX,cX] 6 oP oO rfl ?_;refine wpAny_ready (rs:=[0,1]) oP oC ?_;refine dh rfl (fun K hK=>?_) (dh rfl (fun K hK=>?_) AllReady.nil);focus
  go_simp;refine hK _ _ ?_;clear hK K;simp only[c8,dk];refine iG 1 fun K hK=>?_;go_simp;refine hK _ _ ?_;clear hK K;simp only[gU];refine iG 2 fun K hK=>?_;go_simp;have e:cT c.heap.size c c.drew:=⟨rfl,rfl,rfl,cV _,fun _ _=>rfl⟩;refine(al.o p s q t _).mono ?_;rintro an w3 ⟨rfl,A⟩;have m:cT c.heap.size c w3:=e.trans A;clear e A;refine hK _ _ ?_;clear hK K;simp only[gU];refine wpAny_take (i:=3) (v:=?_) rfl oP oP oP (fun _ _ _ a=>a) (Or.inl ⟨oO,?_⟩) ?_;rotate_left;. intro w;go_simp;try with_reducible rfl
  simp only[dp,gU]
  (try rw[H])
  clear H;have aa:=j.o.2.1.gD m;have R:=j.o.2.2.1.gD m;have ax:=iq j.o.1 m;clear u y L O M;obtain⟨u,y⟩:=aa.c2;obtain⟨L,O,M⟩:=R.c3
 rotate_left;focus
  go_simp;refine hK _ _ ?_;clear hK K;simp only[gU];refine wpAny_ready (rs:=[0,2]) oP oC ?_;refine dh rfl (fun K hK=>?_) (dh rfl (fun K hK=>?_) AllReady.nil);focus
   go_simp;refine hK _ _ ?_;clear hK K;simp only[c8,dk];refine iG 2 fun K hK=>?_;go_simp;have e:cT c.heap.size c c.drew:=⟨rfl,rfl,rfl,cV _,fun _ _=>rfl⟩;refine(al.o p s q t _).mono ?_;rintro an w3 ⟨rfl,A⟩;have m:cT c.heap.size c w3:=e.trans A;clear e A;refine hK _ _ ?_;clear hK K;simp only[gU];refine wpAny_take (i:=3) (v:=?_) rfl oP oP oP (fun _ _ _ a=>a) (Or.inl ⟨oO,?_⟩) ?_;rotate_left;. intro w;go_simp;try with_reducible rfl
   simp only[dp,gU]
   (try rw[H])
   clear H;have aa:=j.o.2.1.gD m;have R:=j.o.2.2.1.gD m;have ax:=iq j.o.1 m;clear u y L O M;obtain⟨u,y⟩:=aa.c2;obtain⟨L,O,M⟩:=R.c3
  rotate_left;focus
   go_simp;have e:cT c.heap.size c c.drew:=⟨rfl,rfl,rfl,cV _,fun _ _=>rfl⟩;refine(al.o p s q t _).mono ?_;rintro an w3 ⟨rfl,A⟩;have m:cT c.heap.size c w3:=e.trans A;clear e A;refine hK _ _ ?_;clear hK K;simp only[gU];refine wpAny_take (i:=3) (v:=?_) rfl oP oP oP (fun _ _ _ a=>a) (Or.inl ⟨oO,?_⟩) ?_;rotate_left;. intro w;go_simp;try with_reducible rfl
   simp only[dp,gU]
   (try rw[H])
   clear H;have aa:=j.o.2.1.gD m;have R:=j.o.2.2.1.gD m;have ax:=iq j.o.1 m;clear u y L O M;obtain⟨u,y⟩:=aa.c2;obtain⟨L,O,M⟩:=R.c3;refine iG 0 fun K hK=>?_;go_simp;refine hK _ _ ?_;clear hK K;simp only[c8,dk]
 all_goals refine iG 4 fun K hK=>?_;go_simp;refine hK _ _ ?_;clear hK K;refine iG 5 fun K hK=>?_;go_simp;refine hK _ _ ?_;clear hK K;refine kS ?_;have bu:=m.size;have f:=mQ R (hA p P q) (hA s B t) (gE ha 0) ax (by have:=T.o;omega);obtain⟨bg,F⟩:=nM (((w3.setCell ⟨g+1,0,cN⟩ (hA p P q)).setCell ⟨g+1,1,cN⟩ (hA s B t)).setCell ⟨g+1,2,cN⟩ (gE ha 0));rw[F] at f;have z:=gF f;have ak:=gF F;clear f F;go_wp2;rw[ak.o];have am:=z.o.box.cell;refine cW (v:= hI #[hG #[hA p P q, hA s B t, gE ha 0], hF GC]) (by simp[c6,results113,go_sem,am];try exact aS.o) rfl ?_;rw[<-aR.o];have bp:=z.o.size;have bn:=aV.o;have aI:=T.o;have aQ:=ai.o.size;have G:=af.o.2.2;obtain⟨a3,bl⟩:=bd.o;refine⟨z.o.below,p,q,s,t,by rw[a3,bl,G],?_⟩;rw[a3,G];exact(j.o.2.2.2.keep (fun b h=>(ae.o b h).2.2) m).same (fun b h=>z.o.same b (ae.o b h).2.1) fun b h=>by rcases h with a|a;exact .inl a;exact .inr ⟨oM,oM⟩
theorem NY (o:Option Nd) (key:ByteArray) (po ko:Option Addr) (pc kc:Nat) (w:c4) (c: ∀b,S b->b<w.heap.size) (g:jf S w (il po pc ko kc (Nd.nr o)) (Nd.nr o)) (t:nW o):
  c7 cS 113 #[hG (il po pc ko kc (Nd.nr o)).toArray, hE key] w (rW S w (jx o key)):=by
 rw[<-NW];cases o with
 | none=>
  have a:ji key (Nd.nr cN)=kR []:=by rw[ji,if_pos (show(Nd.nr cN).gC=[] from rfl)];rfl
  refine GA _ key po ko pc kc w c (fun f e=>Gz _ key po ko pc kc f (fun b a=>iU (c b a) e.size) (g.keep c e) rfl (by simp[Nd.nr,kR,Nd.ps])) ?_ ?_;rw[a];simp[kR,Nd.ps];rw[a];simp[kR,Nd.gC]
 | some n=>obtain⟨⟨a,i⟩,h⟩:=t n rfl;have j:=(xT (key:=key) oF oF oF i h).1.bounds;exact GA n key po ko pc kc w c (fun f e=>NV key n po ko pc kc f (fun b a=>iU (c b a) e.size) (g.keep c e) i oF h) oM oM
def nT (n:Nd) (k:Nat):List Nd:=((n.gC.take k).map Nd.je).flatten
theorem NZ {n:Nd} (h:k<n.gC.length):nT n (k+1)=nT n k++n.gC[k].je:=by
 unfold nT;rw[c0 h,List.map_append,dy];simp
theorem N0 {n:Nd} (h:n.gC.length=k):n.je=nT n k++[n]:=by
 unfold nT;rw[zN,db oM]
theorem GD (n:Nd) (k:Nat):(nT n k).length+1<=n.je.length:=by
 have a:n.je=nT n k++(((n.gC.drop k).map Nd.je).flatten++[n]):=by unfold nT;rw[zN, <-List.append_assoc, <-dy, <-List.map_append,List.take_append_drop]
 rw[a,iI,iI,List.length_singleton];omega
theorem N1: ∀(n:Nd) (po ko:Option Addr) (pc kc:Nat) (w:c4) {S:Nat->Prop},(∀b,S b->b<w.heap.size)->jf S w (il po pc ko kc n) n->n.je.length<=1000000->
  c7 cS 111 #[hG (il po pc ko kc n).toArray] w (oq S w n.je):=by
 intro n
 induction n using Nd.pW with
 | h n aV=>
 intro po ko pc kc w S e W A;obtain⟨aX,aL,aM,aN,aO⟩:=info_parts wC;have j:=gF (gK aL (gK aM (gK aN aO)));clear aL aM aN aO;obtain⟨-,-,aS,aD⟩:=W.parts;obtain⟨m,ae⟩:=nM n.gC.length;obtain⟨F,aQ⟩:=nM n.ps.length;obtain⟨E,aP⟩:=nM n.page;have al:il po pc ko kc n=[hA po F pc, hA ko m kc, gE ha E]:=by unfold il;rw[ae,aQ,aP]
 have af:=(ox aS);unfold maxLen at af;rw[ae] at af;obtain⟨bD,af⟩:=af;obtain⟨bv,c⟩:=nM (oq S w n.je);have bu:=gF al;rw[al] at W |-;rw[c];have aJ: ∀f (aI:f<n.gC.length) po ko pc kc y,(∀b,S b->b<y.heap.size)->jf S y (il po pc ko kc n.gC[f]) n.gC[f]->n.gC[f].je.length<=1000000->c7 cS 111 #[hG (il po pc ko kc n.gC[f]).toArray] y (oq S y n.gC[f].je):=
  fun f aI po ko pc kc y bc bd be=>aV _ (c9 aI) po ko pc kc y bc bd be
 obtain⟨ax,am⟩:=nM w.heap.size;obtain⟨W0,an⟩:=nM (w.alloc (hM #[hA po F pc, hA ko m kc, gE ha E] 95));have I:cT w.heap.size w W0:=by subst an;exact Below.one w _
 have a2:Bx W0 ax #[hA po F pc, hA ko m kc, gE ha E] 95:=by subst an am;exact Bx.new w _ _
 have aU:W0.heap.size=ax+1:=by subst an am;simp
 have aw:=gF ae;have a6:=gF c;have a8:=gF aJ;have G:=gF I;have ai:=gF (gK W aD);have a9:=gF aU;have a5:=gF am;have aj:=gF A;obtain⟨ay,aW⟩:=a2.c2;clear aS W aD ae aQ aP al c aJ aV aU A I;go_enter func111,ntmps111;go_wp2_with fail
 go_loopw [3,4] (fun bp f wr=> ∃(k:Nat) (r:Option Addr) (q:Nat),k<=m/\f= gE ha k/\bp= hA r (nT n k).length q/\iM (fun b=>S b\/(W0.heap.size<=b/\b<wr.heap.size)) W0.heap.size wr (hA r (nT n k).length q) (nT n k)/\cT W0.heap.size W0 wr) (fun _ f _=>m - (intOf f).toNat)
 case atStart=>exact⟨0,cQ ⟨W0.heap.size,0,cN⟩,0,oM,rfl,by simp[nT],by simpa[nT] using iM.empty (fun b=>S b\/(W0.heap.size<=b/\b<(W0.alloc (hM #[] 95)).heap.size)) W0 W0.heap.size W0.heap.size rfl (cV _),Below.one _ _⟩
 case round=>
  clear ay aW;obtain⟨k,r,q,bC,rfl,rfl,c,g⟩:=hrel;have aT:=g.size;have bq:=a2.gD g;obtain⟨ay,aW⟩:=bq.c2;have ap:=GD n k;obtain⟨v,U⟩:=nM (nT n k);rw[U] at c ap |-;obtain⟨l,ab⟩:=nM v.length;rw[ab] at c ap |-;have H:=gF (gK U ab)
  by_cases bi:k<m
  .
   have ad:k<n.gC.length:=by rw[aw.o];exact bi
   have i:=iq G.o g;obtain⟨az,bE,bm,c1,bk,ba,rfl,aH,bw,bz,bA,aE⟩:=(ai.o.2.keep e i).get ad;have bB:az<wr.heap.size:=by have:=e az aH;have:=i.size;omega
   have ag:=NZ ad;have ac:=GD n (k+1);rw[ag,iI,U,ab] at ac;have O:=a8.o k ad bm bk c1 ba wr (fun b h=>by have:=e b h;have:=i.size;omega) aE (by have:=aj.o;omega);obtain⟨C,aA⟩:=nM ((n.gC[k]'ad).je);rw[aA] at O ac ag;obtain⟨cl,ao⟩:=nM C.length;unfold il oq at O;rw[ao] at O ac;have A:=aj.o;have bh:l+cl<=1000000:=oM
   have a7:=gF O;have ak:=gF (gK ag ao);have bt:=gF i;have av:=gF (gK c g);clear O aE ag i c g aA ao U ab aH A ap ac;go_wp2_with fail;refine a7.o.mono ?_;rintro z ah ⟨aa,bo,bn,rfl,aR,X⟩;obtain⟨c,g⟩:=av.o;have J:=iq g aa;have a3:=aa.size;have M: ∀b,(S b\/(W0.heap.size<=b/\b<wr.heap.size))->b<wr.heap.size:=fun b a=>by rcases a with h|h;have:=e b h;have:=G.o.size;omega;exact h.2
   have aG: ∀b,(S b\/(W0.heap.size<=b/\b<ah.heap.size))->b<ah.heap.size:=fun b a=>by rcases a with h|h;have:=e b h;have:=G.o.size;omega;exact h.2
   have D:=c.own;have L:=(c.stays M aa).up (T:=fun b=>S b\/(W0.heap.size<=b/\b<ah.heap.size)) fun b a=>a.imp id fun h=>⟨h.1,oM⟩;have X:=X.up (T:=fun b=>(S b\/(W0.heap.size<=b/\b<ah.heap.size))/\(dq r l q).ownBlock≠cQ b) fun b a=>by refine⟨a.imp id fun h=>⟨oM,h.2⟩,fun z=>?_⟩;have:=D b z;rcases a with h|h;have:=e b h;have:=G.o.size;omega;omega
   have t:=gF (gK L (gK X (gK aG (gK J (gK aR (jU aT a3))))));clear c g J a3 M aG D L X av aa aR;go_wp2_with (at_builtin;go_loud (refine Cn rfl _ _ 93 rfl dm aX _ j.o.1 j.o.2.1 j.o.2.2.1 j.o.2.2.2 rfl t.o.2.2.1 t.o.2.2.2.2.2 r q l cl v C H.o.2 ak.o.2 rfl t.o.1 bo bn rfl t.o.2.2.2.2.1 t.o.2.1 bh ?_;intro aZ aY a0 Z p));obtain⟨L,-,-,J,-,br⟩:=t.o;have R:=Below.jT J L (cV _) p;have a4:=p.size;have aB:nT n (k+1)=v++C:=by rw[ak.o.1,H.o.1]
   have aK:(v++C).length=l+cl:=by rw[iI,H.o.2,ak.o.2]
   have u:=gF (gK R (gK aB (gK aK (gK (Z.up (T:=fun b=>S b\/(W0.heap.size<=b/\b<a0.heap.size)) fun b a=>a.imp id fun h=>⟨h.1,oM⟩) p))));clear L J br R a4 aB aK Z p;go_roundw;case rel=>exact⟨k+1,aZ,aY,oM,oQ,by rw[u.o.2.1,u.o.2.2.1],by rw[u.o.2.1,u.o.2.2.1];exact u.o.2.2.2.1,u.o.1⟩
   case measure=>simp[intOf];omega
  obtain rfl:k=m:=oM
  have B:n.je=v++[n]:=by rw[N0 aw.o,H.o.1]
  have A:l+1<=1000000:=by have:=aj.o;omega
  have I:=G.o;have i:=iq I g;have au:=i.size;have ar:=a9.o;have aq:=a5.o;have M: ∀b,(S b\/(W0.heap.size<=b/\b<wr.heap.size))->b<wr.heap.size:=fun b a=>by rcases a with h|h;have:=e b h;omega;exact h.2
  have D:=c.own;obtain⟨w1,P⟩:=nM (wr.alloc (hM #[hA po F pc, hA ko k kc, gE ha E] 95));have N:cT wr.heap.size wr w1:=by rw[<-P];exact Below.one _ _
  have a1:Bx w1 wr.heap.size #[hA po F pc, hA ko k kc, gE ha E] 95:=by rw[<-P];exact Bx.new _ _ _
  have bs:w1.heap.size=wr.heap.size+1:=by rw[<-P];simp
  have aF: ∀b,(S b\/(W0.heap.size<=b/\b<w1.heap.size))->b<w1.heap.size:=fun b a=>by rcases a with h|h;have:=e b h;omega;exact h.2
  have Y:=(c.stays M N).up (T:=fun b=>S b\/(W0.heap.size<=b/\b<w1.heap.size)) fun b a=>a.imp id fun h=>⟨h.1,oM⟩;have aC:jw (fun b=>(S b\/(W0.heap.size<=b/\b<w1.heap.size))/\(dq r l q).ownBlock≠cQ b) w1 (cQ ⟨wr.heap.size,0,cN⟩) [n]:=by refine s5 (c1:=[hA po F pc, hA ko k kc, gE ha E]) ((gO.bx a1).mono fun b a=>⟨.inr ⟨oM,oM⟩,fun z=>by have:=D b z;omega⟩) ?_;exact((ai.o.1.keep e i).keep (fun b a=>by have:=e b a;omega) N).up fun b a=>⟨.inl a,fun z=>by have:=D b z;have:=e b a;omega⟩
  have s:=gF (gK Y (gK aC (gK aF (gK (iq i N) (gK (jU aT N.size) (gK P (gK B (gK au (gK ar aq)))))))));clear B I i au ar aq M D P N a1 bs aF Y aC c g ai;go_wp2_with (at_builtin;go_loud (rw[s.o.2.2.2.2.2.1];refine Cn rfl _ _ 93 rfl dm aX _ j.o.1 j.o.2.1 j.o.2.2.1 j.o.2.2.2 rfl s.o.2.2.1 s.o.2.2.2.2.1 r q l 1 v [n] H.o.2 rfl rfl s.o.1 (cQ ⟨wr.heap.size,0,cN⟩) 1 rfl (.inr ⟨_,rfl,cV _,by simp[maxLen]⟩) s.o.2.1 A ?_;intro aZ aY a0 Z p));obtain⟨Y,-,-,bf,bF,-,B,au,ar,aq⟩:=s.o;rw[<-a6.o];have R:=Below.jT bf Y oM p;have a4:=p.size;obtain⟨bl,a',bb,bj,bg⟩:=Z.done;refine⟨R,bl,a',by rw[B, <-bb];rfl,by rw[B];exact bj,?_⟩;rw[B];refine bg.up fun b a=>?_;rcases a with (h|h)|h;exact .inl h;exact .inr ⟨oM,oM⟩;exact .inr ⟨oM,oM⟩
theorem GF {d:ik} {gI gJ:Int}: ∀(f:Nat) {page:Int} {used u:List Int} {n:Nd},iH d gI gJ f page used=cQ (n,u)->Hb f n
 | 0,_,_,_,_,h=>by cases h
 | f+1,page,used,u,n,h=>by
  rw[iH] at h;split at h;cases h;split at h;split at h;cases h;split at h;cases h;split at h;simp only[cU,cO] at h;obtain⟨rfl,-⟩:=h;exact .mk _ _ fun k a=>by cases a
  cases h;split at h;cases h;split at h;cases h;rename_i e i a;split at h;simp only[cU,cO] at h;obtain⟨rfl,-⟩:=h;refine .mk _ _ fun x c=>?_;obtain⟨g,j,m,b⟩:=(wu a).2 x c;exact GF f b;cases h
theorem GG {g:Int->List Int->Option (Nd×List Int)} (e: ∀p u n a,g p u=cQ (n,a)->n.iv.length+3 * u.length<=3 * a.length):
  ∀{l:List Int} {u a:List Int} {b:List Nd},jL g l u=cQ (b,a)->(b.map Nd.iv).flatten.length+3 * u.length<=3 * a.length
 | [],_,_,_,h=>by simp only[jL,cU,cO] at h;obtain⟨rfl,rfl⟩:=h;simp
 | p::r,u,a,b,h=>by rw[jL] at h;split at h;cases h;rename_i n q i;obtain⟨⟨o,s⟩,f,c⟩:=Option.map_eq_some_iff.1 h;simp only[cO] at c;obtain⟨rfl,rfl⟩:=c;have j:=e _ _ _ _ i;have m:=GG e f;simp only[List.map_cons,dn,iI];omega
theorem Cr {d:ik} {gI gJ:Int}: ∀(f:Nat) {page:Int} {used u:List Int} {n:Nd},iH d gI gJ f page used=cQ (n,u)->n.iv.length+3 * used.length<=3 * u.length
 | 0,_,_,_,_,h=>by cases h
 | f+1,page,used,u,n,h=>by
  rw[iH] at h;split at h;cases h;split at h;split at h;cases h;rename_i c;split at h;cases h;rename_i ps i;split at h;simp only[cU,cO] at h;obtain⟨rfl,rfl⟩:=h;obtain⟨m,o⟩:=tE i;rw[Nd.iJ rfl];simp only[Nd.ps,iI,j1,dc];omega;cases h;split at h;cases h;rename_i c;split at h;cases h;rename_i j r b;split at h;simp only[cU,cO] at h;obtain⟨rfl,rfl⟩:=h;have g:j.length=((gQ d page).getD 1 0).toNat:=by rw[(wu b).1];simp[mg]
  have:=GG (fun p u n q e=>Cr f e) b;rw[Nd.iu (by intro a;simp only[Nd.gC] at a;rw[a,dc] at g;omega)];simp only[Nd.gC];simp only[iI,j1,dc] at this;omega;cases h
theorem GH (a:Nat) (d:ik) (gI gJ:Int) (b:iW d=0) (c:jE d gI gJ=cY): ∀f,f<=1000000->zW a d gI gJ f
 | 0,_=>Nc a d gI gJ
 | f+1,h=>Nf a d gI gJ f (GH a d gI gJ b c f oM) b c oM
def N2 (o:Option (Nd×List Int)) (w:c4) (e:Ending) (w':c4):Prop:=
 cT w.heap.size w w'/\ ∃po pn pc ko kn kc pg uo un uc,e= ht (hI #[hG #[hA po pn pc, hA ko kn kc, gE ha pg], hA uo un uc, hF o.isSome])/\
  ∀n u,o=cQ (n,u)->un=u.length/\pn=n.ps.length/\kn=n.gC.length/\pg=n.page/\jk uo u.length uc/\lp (· <w'.heap.size) w' uo u/\mU w' (il po pc ko kc n) n/\jf (fun b=>w.heap.size<=b/\b<w'.heap.size) w' (il po pc ko kc n) n
theorem GI (d:ik) (v:dt) (gI gJ page:Int) (w:c4) (o:iF w v d) (i:iW d=0) (j:jE d gI gJ=cY) (f:ny page):
  c7 cS 55 #[v, gE ha gI, gE ha gJ, gE ha page, hA cN 0 0] w (N2 (iH d gI gJ (kT gI gJ) page []) w):=by
 obtain⟨B,C,D,E,F⟩:=ra j;have G:=pd (nY i).1;refine(GH w.heap.size d gI gJ i j (kT gI gJ) (by unfold kT;omega) page [] v cN 0 w o (cV _) (World.ownsRow_nil _ _ _ _) ⟨du,fun M f=>by cases f⟩ (by unfold kT;simp;omega) f).mono ?_;rintro b w' ⟨e,U,T,P,J,I,H,R,Z,Y,X,rfl,m⟩;have a:cT w.heap.size w w':=⟨e.os,e.tape,e.output,e.size,fun k p=>e.block k p (by simp[df])⟩;refine⟨a,_,_,_,_,_,_,_,_,_,_,rfl,fun n u q=>?_⟩;obtain⟨t,W,g⟩:=m n u q;obtain⟨L,y,b,s,r,-⟩:=nC t;simp only[de] at b;obtain⟨rfl,rfl,rfl⟩:=b;obtain⟨N,z,O,A,b⟩:=g.cells;simp only[il,List.cons.injEq,de,Value.int.injEq,and_true,true_and] at b;obtain⟨⟨rfl,rfl,rfl⟩,⟨rfl,rfl,rfl⟩,rfl⟩:=b;exact⟨rfl,rfl,rfl,rfl,s,lp.js (gO.mono r fun h a=>a.2),g.c fun h a=>a.2.1,g.same (fun _ _=>rfl) fun h a=>⟨a.1,a.2.1⟩⟩
theorem GJ {f h c g:Nat} (e:(jV (gQ d gI) gI gJ 0).getD (0,0)=(f,h)) (a:(jV (gQ d (gI+1)) gI gJ 1).getD (0,0)=(c,g)):
  jY d gI gJ=if f<c then (c,g) else (f,h):=by
 unfold jY;cases j:jV (gQ d gI) gI gJ 0 with
 | none=>
  rw[j] at e;simp only[c5,cO] at e;obtain⟨rfl,rfl⟩:=e;cases b:jV (gQ d (gI+1)) gI gJ 1 with
  | none=>rw[b] at a;simp only[c5,cO] at a;obtain⟨rfl,rfl⟩:=a;rfl
  | some i=>rw[b] at a;obtain rfl:i=(c,g):=a;have:=(uO b).1;rw[if_pos oM];rfl
 | some x=>
  rw[j] at e;obtain rfl:x=(f,h):=e;cases b:jV (gQ d (gI+1)) gI gJ 1 with
  | none=>rw[b] at a;simp only[c5,cO] at a;obtain⟨rfl,rfl⟩:=a;rw[if_neg oM];rfl
  | some i=>rw[b] at a;obtain rfl:i=(c,g):=a;rfl
theorem GK (d:ik) (v:dt) (gI gJ:Int) (k:Nat) (c:iW d=0) (f:jE d gI gJ=cY) (g:k<=1) (a:(jV (gQ d (gI+k)) gI gJ k).getD (0,0)=(V,n)) (w:c4) (b:iF w v d):
  c7 cS 54 #[v, gE ha gI, gE ha gJ, gE ha k] w fun e w'=>e= ht (hI #[gE ha V, gE ha n])/\cT w.heap.size w w':=by
 cases e:jV (gQ d (gI+k)) gI gJ k with
 | none=>rw[e] at a;simp only[c5,cO] at a;obtain⟨rfl,rfl⟩:=a;exact Jn d v gI gJ k w c f g e b
 | some h=>rw[e] at a;obtain rfl:h=(V,n):=a;exact Jm d v gI gJ k V n w c f g e b
theorem Ad {s:List UInt8} (a:(jV s gI gJ k).getD (0,0)=(V,n)):V<=1099511627776/\n<=1099511627776/\(n=0\/(gI+2<=(n:Int)/\(n:Int)<gJ)):=by
 cases b:jV s gI gJ k with
 | none=>rw[b] at a;simp only[c5,cO] at a;obtain⟨rfl,rfl⟩:=a;simp
 | some g=>rw[b] at a;obtain rfl:g=(V,n):=a;obtain⟨-,-,h,c,e,f,-,-⟩:=tS b;exact⟨c,e,f⟩
theorem GL (h:iQ d gI gJ≠0):jF d gI gJ=(iY,iQ d gI gJ):=by unfold jF;rw[if_pos h]
theorem Cs (h:iQ d gI gJ=0) (a:kJ d gI gJ=cN):jF d gI gJ=(iY,25):=by unfold jF;rw[if_neg (by simpa using h),a]
theorem GM (h:iQ d gI gJ=0) {t:Option Nd} (a:kJ d gI gJ=cQ (x,t)):jF d gI gJ=(x,0):=by unfold jF;rw[if_neg (by simpa using h),a]
theorem Ct (h:jY d gI gJ=(V,n)):kJ d gI gJ=if V=0 then cN else match l5 d gI gJ n with
  | none=>cN
  | some (t,u)=>cQ (⟨d,gI,gJ,V,n,mv gI gJ u⟩,t):=by
 unfold kJ;rw[h];rfl
theorem xt {w':c4} {o:Option Addr} {l:List Int} (h:lp (· <w.heap.size) w o l) (a:cT w.heap.size w w'):lp (· <w'.heap.size) w' o l:=fun i f=>by
 obtain⟨b,j,e,c,g⟩:=(lp.below h a) i f;exact⟨b,j,e,c,iU g a.size⟩
def Ae (d:ik) (po co:Option Addr) (pc cc:Nat) (gI gJ gZ gN:Int) (L:List Int):mS:=⟨fun r=> hG #[gE ha d.size, hA po d.gG.length pc, hA co d.gH.length cc, gE ha d.left, gE ha gI, gE ha gJ, gE ha gZ, gE ha gN, hA (jK (r.x 0)) L.length (j3 (r.x 0))],fun r W=>jk (jK (r.x 0)) L.length (j3 (r.x 0))/\jQ W (jK (r.x 0)) L⟩
theorem Af (d:ik) (v:dt) (gI gJ:Int) (w:c4) (aY:iF w v d):
  c7 cS 17 #[v, gE ha gI, gE ha gJ] w (rL w (jF d gI gJ).1 (jF d gI gJ).2):=by
 have bW:=aY;obtain⟨j,i,h,g,rfl⟩:=aY.agg;obtain⟨R,bX⟩:=nM w.heap.size;obtain⟨W0,bq⟩:=nM ((w.alloc (hM (dC d j h i g) 25)).alloc (hM jW 33));have az:xH w R d j h i g W0:=by subst bq bX;have bg:=(Below.one w (hM (dC d j h i g) 25)).alloc oC (hM jW 33);exact⟨(Bx.new w (dC d j h i g) 25).alloc _,Bx.ir _ _ _ _ oC,bg,bW.below bg,rfl,oC⟩
 obtain⟨b8,aZ⟩:=nM (rL w (jF d gI gJ).1 (jF d gI gJ).2);rw[aZ];have ag:=gF aZ;clear aY aZ;have e:=az.nJ.cell;unfold dC at e;have q:=az.nJ.lt;have a2:=DF d _ W0 az.val rfl;obtain⟨bQ,a1⟩:=nM (iW d);rw[a1] at a2;have bL:=gF a2;have bk:=gF a1;clear a2 a1;go_enter func17,ntmps17;go_wp2_with fail;refine bL.o.mono ?_;rintro p bJ ⟨rfl,br⟩;have a:=az.next br;clear az e q br bq;have e:=a.nJ.cell;unfold dC at e;have q:=a.nJ.lt;cases bv:(bQ !=0);rotate_left;focus
  have bz:iW d≠0:=by rw[bk.o];simpa using bv
  have y:jF d gI gJ=(iY,1):=by
   have p:iQ d gI gJ=1:=by unfold iQ;rw[if_pos bz]
   rw[GL (by rw[p];decide),p]
  clear bz;have ab:=gF y;have c:=a.res;obtain⟨B,aw,aA⟩:=c.c3;unfold jW at B;have G:=gF (vV (b:=R+1) a.below (by have:=a.gM;omega));have A:=gF c.pE;clear y c;go_wp2;have o:=A.o.cell;simp only[jr,lj] at o;refine cW (v:= hI #[hG jW, gE ha 1]) (by simp[c6,cZ,go_sem,o]) rfl ?_
 rotate_left;have H:iW d=0:=by rw[bk.o];simpa using bv
 have bK:=gF H;cases I:jE d gI gJ;focus
  have y:jF d gI gJ=(iY,2):=by
   have p:iQ d gI gJ=2:=by unfold iQ;rw[if_neg (by simpa using H),if_pos I]
   rw[GL (by rw[p];decide),p]
  have aq:=yV d _ gI gJ bJ H I a.val;have ai:=gF aq;clear aq H I;go_wp2_with fail;refine ai.o.mono ?_;rintro p b7 ⟨rfl,ao⟩;have s:=a.next ao;clear a e q ao ai;have a:=s;have ab:=gF y;have c:=a.res;obtain⟨B,aw,aA⟩:=c.c3;unfold jW at B;have G:=gF (vV (b:=R+1) a.below (by have:=a.gM;omega));have A:=gF c.pE;clear y c;go_wp2;have o:=A.o.cell;simp only[jr,lj] at o;refine cW (v:= hI #[hG jW, gE ha 2]) (by simp[c6,cZ,go_sem,o]) rfl ?_
 rotate_left;.
  obtain⟨bR,bp,bS,bT,bU⟩:=ra I;have b2:=pd (nY H).1;have aq:=yV d _ gI gJ bJ H I a.val;have ai:=gF aq;have bw:iQ d gI gJ=0:=by unfold iQ;rw[if_neg (by simpa using H),if_neg (by simp[I])]
  have ah:=gF bw;have bM:=gF I;obtain⟨aU,bC,aE⟩: ∃V n,(jV (gQ d gI) gI gJ 0).getD (0,0)=(V,n):=⟨_,_,rfl⟩;obtain⟨aV,bD,aF⟩: ∃V n,(jV (gQ d (gI+1)) gI gJ 1).getD (0,0)=(V,n):=⟨_,_,rfl⟩;have bj:=gF (GJ aE aF);have bH:=Ad aE;have bI:=Ad aF;have be:=fun m=>GK d (hG (dC d j h i g)) gI gJ 0 H I oM (by simpa using aE) m;have bf:=fun m=>GK d (hG (dC d j h i g)) gI gJ 1 H I oM (by simpa using aF) m;have bh:=gF be;have bi:=gF bf;have bN:=gF bH;have bO:=gF bI;have F:Hid (0<=gI/\gJ<=2000/\gI+3<=gJ):=gF ⟨bp,oM,oM⟩;clear aq H I bw aE aF bH bI be bf bR bp bS bT bU b2;go_wp2_with fail;refine ai.o.mono ?_;rintro p b7 ⟨rfl,ao⟩;have s:=a.next ao;clear a e q ao ai;have e:=s.nJ.cell;unfold dC at e;have q:=s.nJ.lt;go_wp2_with fail;refine(bh.o _ s.val).mono ?_;rintro p cd ⟨rfl,bs⟩;have O:=s.next bs;clear s e q bs bh;have e:=O.nJ.cell;unfold dC at e;have q:=O.nJ.lt;go_wp2_with fail;refine(bi.o _ O.val).mono ?_;rintro p bb ⟨rfl,bt⟩;have a:=O.next bt;clear O e q bt bi
  by_cases bx:aU<aV
  focus
   have aR:Hid (jY d gI gJ=(aV,bD)):=gF (by rw[bj.o,if_pos bx]);go_upto_region 9 with fail
   obtain⟨V,rfl⟩:=nP aV;obtain⟨n,rfl⟩:=nP bD;have bo:=bO;have aa:=gF (Ct aR.o);have ad: ¬V=0:=oM
  rotate_left;focus
   have aR:Hid (jY d gI gJ=(aU,bC)):=gF (by rw[bj.o,if_neg bx]);go_upto_region 9 with fail
   obtain⟨V,rfl⟩:=nP aU;obtain⟨n,rfl⟩:=nP bC;have bo:=bN;have aa:=gF (Ct aR.o)
   by_cases ad:V=0
   .
    have N:kJ d gI gJ=none:=by rw[aa.o,if_pos ad]
    have y:=Cs ah.o N;have bY:((V:Int)==0)=true:=oN
    clear N;have ab:=gF y;have c:=a.res;obtain⟨B,aw,aA⟩:=c.c3;unfold jW at B;have G:=gF (vV (b:=R+1) a.below (by have:=a.gM;omega));have A:=gF c.pE;clear y c;go_wp2;have o:=A.o.cell;simp only[jr,lj] at o;refine cW (v:= hI #[hG jW, gE ha 25]) (by simp[c6,cZ,go_sem,o]) rfl ?_;rw[<-ag.o,ab.o];exact⟨_,rfl,kG.zero _,G.o⟩
  all_goals
   have bY:((V:Int)==0)=false:=oN
   go_upto_region 12 with fail
   obtain⟨f,Y⟩:=nM (bb.alloc (hM #[] 3));have L:=Below.one bb (hM #[] 3);rw[Y] at L |-;have s:=a.next L;clear a;obtain⟨ak,a0⟩:=nM bb.heap.size;have b':ak<f.heap.size:=by rw[<-Y, <-a0];simp
   simp only[a0];clear Y L a0
   by_cases X:n=0
   .
    have a:=s;have aS:Hid (kJ d gI gJ=cQ (⟨d,gI,gJ,V,0,mv gI gJ []⟩,cN)):=gF (by rw[aa.o,if_neg ad];unfold l5;rw[if_pos X,X];rfl);simp only[X,Int.natCast_zero];clear X;have P:Hid (jk (cQ ⟨ak,0,cN⟩) ([]:List Int).length 0/\lp (· <f.heap.size) f (cQ ⟨ak,0,cN⟩) []/\([]:List Int).length<=1000000):=gF ⟨.inr ⟨_,rfl,cV _,dr _⟩,fun ae b0=>absurd b0 oC,oC⟩;obtain⟨FR,U⟩:=nM (mv gI gJ ([]:List Int));have av: ∀m,cT f.heap.size f m->c7 cS 57 #[gE ha gI, gE ha gJ, hA (cQ ⟨ak,0,cN⟩) 0 0] m fun p w'=> ∃ax al,p= ht (hA ax FR.length al)/\w'.ownsRow m.heap.size 3 1 (hA ax FR.length al) FR.length (jI FR)/\cT m.heap.size m w':=fun m J=>by have:=Gd gI gJ ([]:List Int) (cQ ⟨ak,0,cN⟩) 0 m (S:=fun b=>b<f.heap.size) P.o.1 P.o.2.2 (P.o.2.1.same fun b T=>J.block b T) (fun b T=>iU T J.size) F.o.1 (by have:=F.o.2.1;omega) (by have:=F.o.2.2;omega);rw[U] at this;simp only[dc] at this;exact this
    have aj:=gF av;have aP:=gF U;have af:Hid (∀Z:jv f,cT f.heap.size f Z.w):=gF fun Z=>Z.h;clear av U;have e:=a.nJ.cell;unfold dC at e;have q:=a.nJ.lt;have aX:=jv.cells f;go_upto_region 17 with fail
    refine pS 10 2 #[cY,cY,cY,cY,cY,cY,cY,cY,cY,cY,cX,cX] (fun ae=>if ae=8 then cQ (oh FR) else if ae=9 then cQ (Ae d j h i g gI gJ V (0:Int) FR) else cN) oP oO oO oP ?_;simp only[dx,List.take_zero];refine LW.b 8 8 ?_;simp only[jC];repeat (go_big_quiet_step (fail))
    refine da ?_;refine LW.z ?_ ?_;. intro aB _;unfold ix;go_simp;exact rQ (aj.o _ (af.o _))
    intro D;simp only[dp,gU,oh];refine LW.z ?_ ?_;. intro aB a3;have am:jk (jK (D.x 0)) FR.length (j3 (D.x 0))/\jQ aB.w (jK (D.x 0)) FR:=(a3 8 (by decide+kernel)).get oO oO;unfold ix;go_simp;exact⟨dz _ _,fun _=> hA (jK (D.x 0)) FR.length (j3 (D.x 0)),rfl,fun b6 J=>⟨am.1,am.2.below J⟩⟩
    intro ay;simp only[dp,gU,Ae];refine LW.done ?_;intro aW W;have ap:=W.below;have C:=W.get 9 rfl rfl;simp only at C;obtain⟨u,au⟩:=nM (jK (ay.x 0));obtain⟨t,ar⟩:=nM (j3 (ay.x 0));rw[au,ar] at C |-;have E:=a.next ap;have c:=E.res;obtain⟨B,aw,aA⟩:=c.c3;unfold jW at B;have an:kG aW (hG (ib d j h i g gI gJ V (0:Int) u FR.length t)) ⟨d,gI,gJ,V,(0:Int),FR⟩:=⟨j,i,h,g,u,t,rfl,E.val,C.1,C.2⟩;have G:=gF (mV (b:=R+1) (v0:= gE ha d.size) (v1:= hA j d.gG.length i) (v2:= hA h d.gH.length g) (v3:= gE ha d.left) (v4:= gE ha gI) (v5:= gE ha gJ) (v6:= gE ha V) (v7:= gE ha (0:Int)) (v8:= hA u FR.length t) E.below (by have:=E.gM;omega));have A:=gF (c.kh (v0:= gE ha d.size) (v1:= hA j d.gG.length i) (v2:= hA h d.gH.length g) (v3:= gE ha d.left) (v4:= gE ha gI) (v5:= gE ha gJ) (v6:= gE ha V) (v7:= gE ha (0:Int)) (v8:= hA u FR.length t));have aT:=gF (an.only c (kZ _ _ _ _ _ _ _ _ _ _ _ _ _ _ _) oF (Only.nine (v0:= gE ha d.size) (v1:= hA j d.gG.length i) (v2:= hA h d.gH.length g) (v3:= gE ha d.left) (v4:= gE ha gI) (v5:= gE ha gJ) (v6:= gE ha V) (v7:= gE ha (0:Int)) (v8:= hA u FR.length t)));clear W C au ar e q aX af aj ap a E c an;refine iG 10 fun K hK=>?_;go_simp;refine hK _ _ ?_;clear hK K;refine iG 11 fun K hK=>?_;go_simp;refine hK _ _ ?_;clear hK K;refine kS ?_;go_wp2;have o:=A.o.cell;simp only[jr,lj] at o;refine cW (v:= hI #[hG (ib d j h i g gI gJ V (0:Int) u FR.length t), gE ha 0]) (by simp[c6,cZ,go_sem,o]) rfl ?_;rw[<-ag.o,GM ah.o aS.o,aP.o];exact⟨_,rfl,aT.o,G.o⟩
   have ca:0<n:=oM
   have a5:=GI d _ gI gJ n f s.val bK.o bM.o ⟨oM,by have:=bo.o.2.1;omega⟩;obtain⟨b5,a6⟩:=nM (iH d gI gJ (kT gI gJ) n []);rw[a6] at a5;have bn:=gF a5;have ac:=gF a6;have e:=s.nJ.cell;unfold dC at e;have q:=s.nJ.lt;clear a5 a6;go_wp2_with fail;refine bn.o.mono ?_;rintro p aO ⟨bu,aJ,a9,aI,aH,a8,aG,a',aN,cc,ba,rfl,a7⟩;have O:=s.next bu;clear s e q bn bu;go_upto_region 14 with fail
   obtain⟨b9,bZ⟩:=nM aO.heap.size;obtain⟨f,Y⟩:=nM (aO.alloc (hM #[hA aJ a9 aI, hA aH a8 aG, gE ha a'] 95));have bd:=Bx.new aO #[hA aJ a9 aI, hA aH a8 aG, gE ha a'] 95;have L:=Below.one aO (hM #[hA aJ a9 aI, hA aH a8 aG, gE ha a'] 95);rw[Y] at L;simp only[Y,bZ] at bd |-;have aL:=O.next L;clear O Y;cases b5
   case' none=>
    have N:kJ d gI gJ=none:=by rw[aa.o,if_neg ad];unfold l5;rw[if_neg X,ac.o]
    have y:=Cs ah.o N;have a:=aL;clear N a7 aL;simp only[dw]
   rotate_left
   case' some r=>
    obtain⟨aK,M⟩:=r;obtain⟨rfl,rfl,rfl,rfl,bE,bF,bG,-⟩:=a7 aK M rfl;have bB:=zX _ ac.o ⟨du,fun cb b1=>by cases b1⟩;have b3:=bB.1.len (by have:=F.o;omega);have bA:=Cr _ ac.o;have aD:=Nh aK (kT gI gJ) aJ aH aI aG f (bG.stays L) (GF _ ac.o) (by unfold kT;have:=F.o;omega) (by have:=F.o;simp at bA;omega);obtain⟨bV,a4⟩:=nM (vH aK);rw[a4] at aD;unfold il at aD;have bm:=gF aD;have bl:=gF a4;have aQ:=gF (gK bE (gK bF (by have:=F.o;omega:M.length<=1000000)));obtain⟨bP,b4⟩:=bd.c2;clear aD a4 bB b3 bA bE bF bG a7;simp only[di];go_wp2_with fail;refine bm.o.mono ?_;rintro p bc ⟨rfl,aC⟩;have aM:=aL.next aC;clear aL bP b4 bd bm;cases bV
    case' false=>
     have N:kJ d gI gJ=none:=by rw[aa.o,if_neg ad];unfold l5;rw[if_neg X,ac.o];simp only;rw[bl.o];rfl
     have y:=Cs ah.o N;have a:=aM;clear N aM aC
    rotate_left
    case' true=>
     have aS:Hid (kJ d gI gJ=cQ (⟨d,gI,gJ,V,n,mv gI gJ M⟩,cQ aK)):=gF (by
      rw[aa.o,if_neg ad];unfold l5;rw[if_neg X,ac.o];simp only;rw[bl.o];rfl)
     have P:Hid (jk aN M.length ba/\lp (· <bc.heap.size) bc aN M/\M.length<=1000000):=gF ⟨aQ.o.1,xt (xt aQ.o.2.1 L) aC,aQ.o.2.2⟩;obtain⟨f,rfl⟩:=nP bc;have a:=aM;clear aM aC L;obtain⟨FR,U⟩:=nM (mv gI gJ M);have av: ∀m,cT f.heap.size f m->c7 cS 57 #[gE ha gI, gE ha gJ, hA aN M.length ba] m fun p w'=> ∃ax al,p= ht (hA ax FR.length al)/\w'.ownsRow m.heap.size 3 1 (hA ax FR.length al) FR.length (jI FR)/\cT m.heap.size m w':=fun m J=>by
      have:=Gd gI gJ M aN ba m (S:=fun b=>b<f.heap.size) P.o.1 P.o.2.2 (P.o.2.1.same fun b T=>J.block b T) (fun b T=>iU T J.size) F.o.1 (by have:=F.o.2.1;omega) (by have:=F.o.2.2;omega);rw[U] at this
      skip
      exact this
     have aj:=gF av;have aP:=gF U;have af:Hid (∀Z:jv f,cT f.heap.size f Z.w):=gF fun Z=>Z.h;clear av U;have e:=a.nJ.cell;unfold dC at e;have q:=a.nJ.lt;have aX:=jv.cells f;go_upto_region 17 with fail
     refine pS 10 2 #[cY,cY,cY,cY,cY,cY,cY,cY,cY,cY,cX,cX] (fun ae=>if ae=8 then cQ (oh FR) else if ae=9 then cQ (Ae d j h i g gI gJ V n FR) else cN) oP oO oO oP ?_;simp only[dx,List.take_zero];refine LW.b 8 8 ?_;simp only[jC];repeat (go_big_quiet_step (fail))
     refine da ?_;refine LW.z ?_ ?_;. intro aB _;unfold ix;go_simp;exact rQ (aj.o _ (af.o _))
     intro D;simp only[dp,gU,oh];refine LW.z ?_ ?_;. intro aB a3;have am:jk (jK (D.x 0)) FR.length (j3 (D.x 0))/\jQ aB.w (jK (D.x 0)) FR:=(a3 8 (by decide+kernel)).get oO oO;unfold ix;go_simp;exact⟨dz _ _,fun _=> hA (jK (D.x 0)) FR.length (j3 (D.x 0)),rfl,fun b6 J=>⟨am.1,am.2.below J⟩⟩
     intro ay;simp only[dp,gU,Ae];refine LW.done ?_;intro aW W;have ap:=W.below;have C:=W.get 9 rfl rfl;simp only at C;obtain⟨u,au⟩:=nM (jK (ay.x 0));obtain⟨t,ar⟩:=nM (j3 (ay.x 0));rw[au,ar] at C |-;have E:=a.next ap;have c:=E.res;obtain⟨B,aw,aA⟩:=c.c3;unfold jW at B;have an:kG aW (hG (ib d j h i g gI gJ V n u FR.length t)) ⟨d,gI,gJ,V,n,FR⟩:=⟨j,i,h,g,u,t,rfl,E.val,C.1,C.2⟩;have G:=gF (mV (b:=R+1) (v0:= gE ha d.size) (v1:= hA j d.gG.length i) (v2:= hA h d.gH.length g) (v3:= gE ha d.left) (v4:= gE ha gI) (v5:= gE ha gJ) (v6:= gE ha V) (v7:= gE ha n) (v8:= hA u FR.length t) E.below (by have:=E.gM;omega));have A:=gF (c.kh (v0:= gE ha d.size) (v1:= hA j d.gG.length i) (v2:= hA h d.gH.length g) (v3:= gE ha d.left) (v4:= gE ha gI) (v5:= gE ha gJ) (v6:= gE ha V) (v7:= gE ha n) (v8:= hA u FR.length t));have aT:=gF (an.only c (kZ _ _ _ _ _ _ _ _ _ _ _ _ _ _ _) oF (Only.nine (v0:= gE ha d.size) (v1:= hA j d.gG.length i) (v2:= hA h d.gH.length g) (v3:= gE ha d.left) (v4:= gE ha gI) (v5:= gE ha gJ) (v6:= gE ha V) (v7:= gE ha n) (v8:= hA u FR.length t)));clear W C au ar e q aX af aj ap a E c an;refine iG 10 fun K hK=>?_;go_simp;refine hK _ _ ?_;clear hK K;refine iG 11 fun K hK=>?_;go_simp;refine hK _ _ ?_;clear hK K;refine kS ?_;go_wp2;have o:=A.o.cell;simp only[jr,lj] at o;refine cW (v:= hI #[hG (ib d j h i g gI gJ V n u FR.length t), gE ha 0]) (by simp[c6,cZ,go_sem,o]) rfl ?_;rw[<-ag.o,GM ah.o aS.o,aP.o];exact⟨_,rfl,aT.o,G.o⟩
   all_goals have ab:=gF y;have c:=a.res;obtain⟨B,aw,aA⟩:=c.c3;unfold jW at B;have G:=gF (vV (b:=R+1) a.below (by have:=a.gM;omega));have A:=gF c.pE;clear y c;go_wp2;have o:=A.o.cell;simp only[jr,lj] at o;refine cW (v:= hI #[hG jW, gE ha 25]) (by simp[c6,cZ,go_sem,o]) rfl ?_;rw[<-ag.o,ab.o];exact⟨_,rfl,kG.zero _,G.o⟩
 all_goals rw[<-ag.o,ab.o];exact⟨_,rfl,kG.zero _,G.o⟩
theorem N3 {a:Ix} {e:Int} (h:jF x.gL x.gI x.gJ=(a,e)):(if n4 x=cN then 1 else 0:Int)=if e=0/\a.gZ=x.gZ/\a.gN=x.gN/\a.free=x.free then 0 else 1:=by
 unfold jF at h;unfold n4
 by_cases b:iQ x.gL x.gI x.gJ≠0
 rw[if_pos b] at h |-;simp only[cO] at h;rw[if_pos rfl,if_neg fun k=>b (by rw[h.2];exact k.1)];rw[if_neg b] at h |-;split at h;simp only[cO] at h;rw[if_neg (c:=e=0/\_) fun k=>by have:=h.2;omega];rfl;simp only[cO] at h;obtain⟨rfl,rfl⟩:=h;simp only[true_and];split;rfl;rfl
theorem Ag {t:Option Nd} (h:n4 x=cQ t):iW x.gL=0/\jE x.gL x.gI x.gJ=cY/\(jz t).length<=6000/\
  ((x.gN=0/\t=cN)\/ ∃(r:Nat) (n:Nd) (u:List Int),x.gN=r/\0<r/\r<=1099511627776/\t=cQ n/\iH x.gL x.gI x.gJ (kT x.gI x.gJ) r []=cQ (n,u)/\vH n=cY):=by
 unfold n4 at h
 by_cases g:iQ x.gL x.gI x.gJ≠0
 rw[if_pos g] at h;cases h;rw[if_neg g] at h;have b:iQ x.gL x.gI x.gJ=0:=by simpa using g
 have e:iW x.gL=0:=by unfold iQ at b;split at b;cases b;rename_i h;simpa using h
 have f:jE x.gL x.gI x.gJ=true:=by unfold iQ at b;rw[if_neg (by simpa using e)] at b;split at b;cases b;rename_i h;simpa using h
 obtain⟨E,F,G,H,I⟩:=ra f;have J:=pd (nY e).1;split at h;cases h;rename_i U A c;split at h;rename_i z;obtain rfl:A=t:=Option.some.inj h;obtain⟨V,r,o⟩: ∃V r,jY x.gL x.gI x.gJ=(V,r):=⟨_,_,rfl⟩;rw[Ct o] at c;have y:r<=1099511627776:=by obtain⟨C,M,q⟩: ∃V n,(jV (gQ x.gL x.gI) x.gI x.gJ 0).getD (0,0)=(V,n):=⟨_,_,rfl⟩;obtain⟨D,N,s⟩: ∃V n,(jV (gQ x.gL (x.gI+1)) x.gI x.gJ 1).getD (0,0)=(V,n):=⟨_,_,rfl⟩;have:=GJ q s;rw[o] at this;have P:=(Ad q).2.1;have R:=(Ad s).2.1;split at this<;> · simp only[cO] at this;omega
 split at c;cases c;split at c;cases c;rename_i T u a;simp only[cU,cO] at c;obtain⟨rfl,rfl⟩:=c;have p:x.gN=r:=z.2.1.symm;unfold l5 at a;split at a;rename_i m;simp only[cU,cO] at a;obtain⟨rfl,-⟩:=a;exact⟨e,f,by simp[jz], .inl ⟨by rw[p,m];rfl,rfl⟩⟩;rename_i m;split at a;cases a;rename_i n B i;split at a;rename_i v;simp only[cU,cO] at a;obtain⟨rfl,rfl⟩:=a;have L:=(zX _ i ⟨du,fun O j=>by cases j⟩).1.len oM;have j:=Cr _ i;refine⟨e,f,?_, .inr ⟨r,n,B,p,oM,y,rfl,i,v⟩⟩;show n.iv.length<=6000;simp at j;omega;cases a;cases h
theorem yo (x:Ix) (v:dt) (w:c4) (ap:rK w v x) {er:Int} (ac:(if n4 x=cN then 1 else 0)=er):
  c7 cS 26 #[v] w fun e w'=>e= ht (gE ha er)/\cT w.heap.size w w':=by
 obtain⟨ai,ah,X,W,p,C,rfl,Z,ae,ad⟩:=ap;obtain⟨ak,r⟩:=nM w.heap.size;obtain⟨W1,s⟩:=nM (w.alloc (hM (ib x.gL ai X ah W x.gI x.gJ x.gZ x.gN p x.free.length C) 33));have b:cT w.heap.size w W1:=by subst s;exact Below.one w _
 have j:Bx W1 ak (ib x.gL ai X ah W x.gI x.gJ x.gZ x.gN p x.free.length C) 33:=by subst s r;exact Bx.new w _ _
 obtain⟨a,B,G⟩: ∃a e,jF x.gL x.gI x.gJ=(a,e):=⟨_,_,rfl⟩;have H:=Af x.gL _ x.gI x.gJ W1 (Z.below b);rw[G] at H;have R:=gF H;have h:=gF (ac▸(N3 G).symm:(if B=0/\a.gZ=x.gZ/\a.gN=x.gN/\a.free=x.free then 0 else 1:Int)=er);have an:=sX ae;have P:Hid (lp (· <W1.heap.size) W1 p x.free):=gF (xt ad b);obtain⟨i,M⟩:=j.c2;unfold ib at i s;clear H G ac Z ae ad;go_enter func26,ntmps26;go_wp2_with fail;refine R.o.mono ?_;rintro e u ⟨aw,rfl,ao,t⟩;obtain⟨O,N,A,z,q,m,rfl,-,ag,af⟩:=ao;go_upto_region 2 with fail
 obtain⟨av,F⟩:=nM u.heap.size;obtain⟨au,L⟩:=nM (u.alloc (hM (ib a.gL O A N z a.gI a.gJ a.gZ a.gN q a.free.length m) 33));have g:=Below.one u (hM (ib a.gL O A N z a.gI a.gJ a.gZ a.gN q a.free.length m) 33);have y:=Bx.new u (ib a.gL O A N z a.gI a.gJ a.gZ a.gN q a.free.length m) 33;rw[L] at g y;rw[F] at y;simp only[L,F];have j:=(j.gD t).gD g;have b:=iq (iq b t) g;have aa:=xt af.at g;have ab:=xt (xt P.o t) g;have I:=FJ a.free x.free q p m C au aa ab (sX ag) an;obtain⟨ar,J⟩:=nM (decide (a.free=x.free));rw[J] at I;have aj:=gF I;have T:=gF J;clear i M L F t g I J aa ab ag af R P s;obtain⟨i,M⟩:=j.c2;obtain⟨U,aq⟩:=y.c2;unfold ib at i U;cases Y:(B !=0);rotate_left;. have c:Hid (er=1):=gF (by rw[<-h.o,if_neg (by(intro f;have al:=f.1;subst al;cases Y))]);go_wp2;go_ret;exact⟨by rw[c.o];rfl,by first|exact b| (rw[<-r];exact b)⟩
 obtain rfl:B=0:=by simpa using Y
 cases D:(a.gZ !=x.gZ);rotate_left;. have c:Hid (er=1):=gF (by rw[<-h.o,if_neg (by(intro f;rw[f.2.1] at D;simp at D))]);go_wp2;go_ret;exact⟨by rw[c.o];rfl,by first|exact b| (rw[<-r];exact b)⟩
 cases E:(a.gN !=x.gN);rotate_left;focus have c:Hid (er=1):=gF (by rw[<-h.o,if_neg (by(intro f;rw[f.2.2.1] at E;simp at E))])
 rotate_left;focus
  go_wp2_with fail;refine aj.o.mono ?_;rintro e ax ⟨rfl,am⟩;have b:=iq b am;clear i M U aq j y;cases ar
  case' false=>have c:Hid (er=1):=gF (by rw[<-h.o,if_neg (by(intro f;have:=of_decide_eq_false T.o;exact this f.2.2.2))])
  rotate_left
  case' true=>have c:Hid (er=0):=gF (by rw[<-h.o];exact if_pos ⟨by trivial,by simpa using D,by simpa using E,of_decide_eq_true T.o⟩)
 all_goals go_wp2;go_ret;exact⟨by rw[c.o];rfl,by first|exact b| (rw[<-r];exact b)⟩
def GN (t:Option Nd) (w:c4) (e:Ending) (w':c4):Prop:=
 cT w.heap.size w w'/\ ∃po pn pc ko kn kc pg,e= ht (hI #[hG #[hA po pn pc, hA ko kn kc, gE ha pg], hF t.isSome])/\
  (t=cN->po=cN/\pn=0/\pc=0/\ko=cN/\kn=0/\kc=0/\pg=0)/\ ∀n,t=cQ n->pn=n.ps.length/\kn=n.gC.length/\pg=n.page/\jf (fun b=>w.heap.size<=b/\b<w'.heap.size) w' (il po pc ko kc n) n
theorem GP (x:Ix) (v:dt) (w:c4) (aB:rK w v x) {t:Option Nd} (af:n4 x=cQ t):c7 cS 63 #[v] w (GN t w):=by
 obtain⟨ai,ah,N,M,R,P,rfl,X,ax,av⟩:=aB;obtain⟨ab,ac,az,au⟩:=Ag af;obtain⟨a,Y⟩:=nM w.heap.size;obtain⟨W1,r⟩:=nM ((w.alloc (hM (ib x.gL ai N ah M x.gI x.gJ x.gZ x.gN R x.free.length P) 33)).alloc (hM #[hA cN 0 0, hA cN 0 0, gE ha 0] 95));have q:cT w.heap.size w W1:=by subst r;exact(Below.one w _).alloc oC _
 have al:Bx W1 a (ib x.gL ai N ah M x.gI x.gJ x.gZ x.gN R x.free.length P) 33:=by subst r Y;exact(Bx.new w _ _).alloc _
 have y:Bx W1 (a+1) #[hA cN 0 0, hA cN 0 0, gE ha 0] 95:=by subst r Y;exact Bx.ir _ _ _ _ oC
 have Z:=X.below q;obtain⟨aJ,A⟩:=nM (GN t w);rw[A];have I:=gF A;obtain⟨L,aF⟩:=al.c2;obtain⟨z,ag,O⟩:=y.c3;have h:w.heap.size<=a+1:=oM
 have aI:=gF h;unfold ib at L r;clear X ax av af az A;rcases au with⟨U,rfl⟩|⟨aG,n,aH,E,aN,aO,rfl,ad,aw⟩;.
  have ar:(x.gN==0)=true:=by rw[U];rfl
  have m:=gF (iT (b:=a+1) (k:=2) (v:= gE ha 0) (iT (b:=a+1) (k:=1) (v:= hA cN 0 0) (iT (b:=a+1) (k:=0) (v:= hA cN 0 0) q h) h) h);clear U;go_enter func63,ntmps63;go_wp2;refine cW (v:= hI #[hG #[hA cN 0 0, hA cN 0 0, gE ha 0], hF cX]) (by simp[c6,results63,go_sem,z]) rfl ?_;rw[<-I.o];exact⟨m.o,_,_,_,_,_,_,_,rfl,fun _=>⟨rfl,rfl,rfl,rfl,rfl,rfl,rfl⟩,fun n p=>by cases p⟩
 have ar:(x.gN==0)=false:=by rw[E];simp;omega
 have C:=GI x.gL _ x.gI x.gJ aG W1 Z ab ac ⟨oM,oM⟩;rw[ad, <-E] at C;have J:=gF C;clear C E Z ad ab ac aw;go_enter func63,ntmps63;go_wp2_with fail;refine J.o.mono ?_;rintro aM u ⟨s,g,aR,f,e,aP,c,aT,aW,aV,aU,rfl,ae⟩;obtain⟨rfl,rfl,rfl,rfl,-,-,-,aj⟩:=ae n aH rfl;go_upto_region 4 with fail
 obtain⟨aK,B⟩:=nM u.heap.size;obtain⟨ak,F⟩:=nM (u.alloc (hM #[hA g n.ps.length f, hA e n.gC.length c, gE ha n.page] 95));have j:=Below.one u (hM #[hA g n.ps.length f, hA e n.gC.length c, gE ha n.page] 95);have H:=Bx.new u #[hA g n.ps.length f, hA e n.gC.length c, gE ha n.page] 95;rw[F] at j H;rw[B] at H;simp only[F,B];have G:=(y.gD s).gD j;have W:=iq (iq q s) j;obtain⟨Wf,i⟩:=nM (((ak.setCell ⟨a+1,0,cN⟩ (hA g n.ps.length f)).setCell ⟨a+1,1,cN⟩ (hA e n.gC.length c)).setCell ⟨a+1,2,cN⟩ (gE ha n.page));have ao:Bx Wf (a+1) #[hA g n.ps.length f, hA e n.gC.length c, gE ha n.page] 95:=by rw[<-i];have:=((G.set 0 (hA g n.ps.length f)).set 1 (hA e n.gC.length c)).set 2 (gE ha n.page);simpa using this
 have am:cT w.heap.size w Wf:=by rw[<-i];exact iT (iT (iT W h) h) h
 have aA:Wf.heap.size=ak.heap.size:=by rw[<-i];simp
 have ay:=y.lt;have aE:=j.size;have aC:=q.size;have aD:=s.size;have an:jf (fun b=>w.heap.size<=b/\b<Wf.heap.size) Wf (il g f e c n) n:=aj.same (T:=fun b=>w.heap.size<=b/\b<Wf.heap.size) (fun b aa=>by
  have D:b≠a+1:=oM
  rw[<-i];exact(cR _ ⟨a+1,2,cN⟩ _ _ D).trans ((cR _ ⟨a+1,1,cN⟩ _ _ D).trans ((cR _ ⟨a+1,0,cN⟩ _ _ D).trans (j.block b aa.2)))) (fun b aa=>oM)
 have m:=gF (gK ao (gK am an));clear L aF z ag O;obtain⟨z,ag,O⟩:=G.c3;obtain⟨aL,aQ⟩:=H.c2;have ap:=gF i;clear aC aD i ao am an aj ae j s F B G W aA aE ay al y q J
 (try simp only[di])
 go_wp2;rw[ap.o];have aq:=m.o.1.cell;refine cW (v:= hI #[hG #[hA g n.ps.length f, hA e n.gC.length c, gE ha n.page], hF cY]) (by simp[c6,results63,go_sem,aq]) rfl ?_;rw[<-I.o];refine⟨m.o.2.1,_,_,_,_,_,_,_,rfl,(fun p=>by cases p),fun aS p=>?_⟩;cases p;exact⟨rfl,rfl,rfl,m.o.2.2⟩
theorem GQ (x:Ix) (v:dt) (w:c4) (H:rK w v x) {t:Option Nd} (y:n4 x=cQ t):
  c7 cS 29 #[v] w fun e w'=> ∃o c,e= ht (hA o (jz t).length c)/\jk o (jz t).length c/\gO (· <w'.heap.size) w' o (gV (jz t))/\cT w.heap.size w w':=by
 have ae:=(Ag y).2.2.1;have I:=H;obtain⟨L,J,B,A,D,C,rfl,-,-,-⟩:=H;have q:=Below.one w (hM (ib x.gL L B J A x.gI x.gJ x.gZ x.gN D x.free.length C) 33);have N:=Bx.new w (ib x.gL L B J A x.gI x.gJ x.gZ x.gN D x.free.length C) 33;have G:=GP x _ _ (I.below q) y;have p:=gF G;obtain⟨z,Z⟩:=N.c2;unfold ib at z p;clear G y I;go_enter func29,ntmps29;go_wp2_with fail;refine p.o.mono ?_;rintro e M ⟨E,i,ab,h,g,Y,f,ac,rfl,-,u⟩;have a:=iq q E;clear z Z N q p E;cases t with
 | none=>simp only[dw];have b:=(a.alloc a.size (hM #[hA i ab h, hA g Y f, gE ha ac] 95)).alloc (by have:=a.size;simp;omega) (hM #[] 77);have m:=gF b;clear u b;go_wp2;go_ret;exact⟨_,_,rfl, .inr ⟨_,rfl,cV _,dr _⟩,gO.nil _ _ _,m.o⟩
 | some n=>obtain⟨rfl,rfl,rfl,j⟩:=u n rfl;have j:=j.c fun ad T=>T.2;have r:=Below.one M (hM #[hA i n.ps.length h, hA g n.gC.length f, gE ha n.page] 95);have O:=Bx.new M #[hA i n.ps.length h, hA g n.gC.length f, gE ha n.page] 95;have s:=F7 n i g h f _ (j.stays r) (by show(jz (cQ n)).length<=1000000;omega);have b:=iq a r;unfold il at s;have P:=gF s;have m:=gF b;obtain⟨R,aa⟩:=O.c2;clear s j u r O a b;simp only[di];go_wp2_with fail;refine P.o.mono ?_;rintro e af ⟨o,c,rfl,X,W,F⟩;have U:=gF (iq m.o F);clear R aa F;go_wp2;go_ret;exact⟨_,_,rfl,X,W,U.o⟩
theorem N4 (e:k<l.length) (a: ∀j (h:j<l.length),j<k->l[j].1≠key) (b:l[k].1=key):oZ l key=(l[k].2,0):=by
 have:l.find? (fun f=>decide (f.1=key))=cQ l[k]:=by rw[List.find?_eq_some_iff_getElem];exact⟨by simpa using b,k,e,rfl,fun j c=>by simpa using a j oM c⟩
 unfold oZ;rw[this]
theorem N5 (b: ∀j (h:j<l.length),l[j].1≠key):oZ l key=(cP,7):=by
 have:l.find? (fun a=>decide (a.1=key))=none:=by rw[List.find?_eq_none];intro a e;obtain⟨j,c,rfl⟩:=List.getElem_of_mem e;simpa using b j c
 unfold oZ;rw[this]
theorem N6 (x:Ix) (v:dt) (key:ByteArray) (w:c4) (Y:rK w v x):
  c7 cS 21 #[v, hE key] w fun e w'=>e= ht (hI #[hE (rj x key).1, gE ha (rj x key).2])/\cT w.heap.size w w':=by
 have Z:=Y;obtain⟨ac,ab,O,N,R,P,rfl,-,-,-⟩:=Y;have t:=Below.one w (hM (ib x.gL ac O ab N x.gI x.gJ x.gZ x.gN R x.free.length P) 33);have o:=Bx.new w (ib x.gL ac O ab N x.gI x.gJ x.gZ x.gN R x.free.length P) 33;have j:=Z.below t;obtain⟨q,D⟩:=nM (rj x key);rw[D];have I:=gF D;obtain⟨g,A⟩:=o.c2;unfold ib at g;clear D Z;cases c:n4 x with
 | none=>have m:=yo x _ _ j (er:=1) (by rw[c];rfl);have s:=gF m;have r:Hid (q=(cP,1)):=gF (by rw[<-I.o];unfold rj;rw[c]);clear m c j;go_enter func21,ntmps21;go_wp2_with fail;refine s.o.mono ?_;rintro e ak ⟨rfl,f⟩;have u:=gF (iq t f);clear g A f;go_wp2;go_ret2;exact⟨by rw[r.o];rfl,u.o⟩
 | some ai=>
  have m:=yo x _ _ j (er:=0) (by rw[c];rfl);have s:=gF m;have ah:=(Ag c).2.2.1;have i:=fun ae af=>GQ x _ ae (j.below af) c;obtain⟨l,y⟩:=nM (jz ai);have r:Hid (oZ l key=q):=gF (by rw[<-I.o, <-y];unfold rj;rw[c]);obtain⟨n,z⟩:=nM l.length;rw[y,z] at ah;simp only[y,z] at i;have i:=gF i;have J:=gF z;clear m c j y z;go_enter func21,ntmps21;go_wp2_with fail;refine s.o.mono ?_;rintro e ak ⟨rfl,f⟩;have o:=o.gD f;have u:=iq t f;clear g A;obtain⟨g,A⟩:=o.c2;unfold ib at g;go_wp2_with fail;refine(i.o _ f).mono ?_;rintro e al ⟨au,am,rfl,X,G,U⟩;have T:=iq u U;have ar:=(ox X).1;clear g A o u f U s i X t;go_wp2
  go_loopw [7] (fun H wr=> ∃k:Nat,k<=n/\H= gE ha k/\Hid (∀a (b:a<l.length),a<k->l[a].1≠key)/\wr=al) (fun H _=>n - (intOf H).toNat)
  case atStart=>exact⟨0,oM,rfl,gF fun a _ b=>oM,rfl⟩
  case round=>
   obtain⟨k,aq,rfl,B,rfl⟩:=hrel
   by_cases ag:k<n
   .
    have W:k<l.length:=by rw[J.o];exact ag
    obtain⟨an,av,rfl,ao,L,M⟩:=xq G W;obtain⟨⟨aa,aj⟩,h⟩: ∃p,l[k]=p:=⟨_,rfl⟩;rw[h] at L M;simp only at L M;cases E:(aa.toList==key.toList);.
     have ad:Hid (∀a (b:a<l.length),a<k+1->l[a].1≠key):=gF (fun a F ap=>by
      by_cases e:a=k
      subst e;rw[h];intro e;rw[show aa=key from e] at E;simp at E;exact B.o a F oM)
     clear h G;go_wp2;go_roundw;case rel=>exact⟨k+1,oM,oQ,ad,trivial⟩
     case measure=>simp[intOf];omega
    have C:Hid (q=(aj,0)):=gF (by
     rw[<-r.o,N4 W (fun a b F=>B.o a b F) (by rw[h];exact oB (by simpa using E)),h])
    clear h G;go_wp2;go_ret2;exact⟨by rw[C.o];rfl,T⟩
   obtain rfl:k=n:=oM
   have C:Hid (q=(cP,7)):=gF (by
    rw[<-r.o,N5 fun a b=>B.o a b (by rw[J.o] at b;exact b)])
   go_wp2;go_ret2;exact⟨by rw[C.o];rfl,T⟩
theorem N7 (l:List ju) (k:Nat) (ad:k<l.length) (o:Option Addr) (aa:Nat) (w:c4) (ah:jk o l.length aa) (aq:l.length<=1000000) (W:oI w o l):
  c7 cS 145 #[hA o l.length aa, gE ha k] w fun e w'=>e= ht (gE ha (iZ (iC l k) l[k]))/\cT w.heap.size w w':=by
 obtain⟨ax,C⟩:=nM (iZ (iC l k) l[k]);rw[C];obtain⟨v,Y,rfl,ac,I,J,L,M,O⟩:=W.cell ad;have ag:k≠0-> ∃r,iC l k=cQ r/\w.cell? ⟨v,Y+(k - 1) * 5,cN⟩=cQ (hE r.key):=fun B=>by
  have ae:k - 1<l.length:=oM
  obtain⟨an,j8,am,-,ak,-⟩:=W.cell ae;obtain⟨rfl,rfl⟩:v=an/\Y=j8:=by simpa using am
  exact⟨l[k - 1],by unfold iC;rw[if_neg B,dv ae],ak⟩
 obtain⟨al,ab⟩:=nM (l[k]);rw[ab] at C I J L M O;obtain⟨key,f,old,c,a⟩:=al;simp only at I J L M O;obtain⟨n,af⟩:=nM l.length;have ao:=(ox ah).1;rw[af] at ad aq ao |-;have ap:iC l 0=none:=rfl;have z:=gF C;have aj:=gF ag;clear ag C ab af ah W;go_enter func145,ntmps145;go_upto_region 2 with fail
 have y:=Bx.new w #[hE key, hF f, hF c, hE old, hE a] 71;have j:=Below.one w (hM #[hE key, hF f, hF c, hE old, hE a] 71);obtain⟨H,T⟩:=nM (w.alloc (hM #[hE key, hF f, hF c, hE old, hE a] 71));rw[T] at y j |-;obtain⟨N,R⟩:=nM w.heap.size;rw[R] at y |-;have aA:v≠N:=oM
 obtain⟨s,u⟩:=y.c2;have az:v<H.heap.size:=iU ac j.size;have E:=gF y;have p:=gF j;have A:=gF (gK R T);clear I J L M O R T y
 by_cases ar:48<key.size
 . have b:Hid (iZ (iC l k) ⟨key,f,old,c,a⟩=4):=gF (by unfold iZ;rw[if_pos (.inl ar)]);clear j;go_wp2;go_ret;refine⟨?_,?_⟩;rw[<-z.o,b.o];rfl;first| (have:=p.o;rw[A.o.1] at this;exact this)|exact p.o
 by_cases au:80<old.size
 . have b:Hid (iZ (iC l k) ⟨key,f,old,c,a⟩=4):=gF (by unfold iZ;rw[if_pos (.inr (.inl au))]);clear j;go_wp2;go_ret;refine⟨?_,?_⟩;rw[<-z.o,b.o];rfl;first| (have:=p.o;rw[A.o.1] at this;exact this)|exact p.o
 by_cases av:80<a.size
 . have b:Hid (iZ (iC l k) ⟨key,f,old,c,a⟩=4):=gF (by unfold iZ;rw[if_pos (.inr (.inr av))]);clear j;go_wp2;go_ret;refine⟨?_,?_⟩;rw[<-z.o,b.o];rfl;first| (have:=p.o;rw[A.o.1] at this;exact this)|exact p.o
 have ai: ¬(48<key.size\/80<old.size\/80<a.size):=oM
 have G:=gF ai;clear ai;go_upto_region 4 with fail
 have P:=jv.cells H
 by_cases B:k=0
 focus
  subst B;have h:Hid (iZ (iC l 0) ⟨key,f,old,c,a⟩=if (f=cX/\c=cX)\/(f=cX/\old≠cP)\/(c=cX/\a≠cP) then 1 else 0):=gF (by unfold iZ;rw[if_neg G.o];simp only[ap,dA,if_false]);clear j;refine p3 oP oP ?_;repeat (any_goals (first|go_big_quiet_skip| (go_big_quiet_want;go_big_quiet_op;first|go_big_quiet_on|go_big_quiet_call ((fail)))|quiet_step ((fail))))
  refine da ?_;rintro Z ⟨⟨_,i⟩,rfl⟩;have m:=E.o.gD i;clear s u P;obtain⟨s,u⟩:=m.c2;have F:=gF i;clear i m;cases f
  case' false=>
   cases c
   case' false=>have b:Hid (iZ (iC l 0) ⟨key,cX,old,cX,a⟩=1):=gF (by rw[h.o,if_pos (.inl ⟨rfl,rfl⟩)])
   rotate_left
   case' true=>
    by_cases g:old=cP
    focus subst g;have b:Hid (iZ (iC l 0) ⟨key,cX,cP,cY,a⟩=0):=gF (by rw[h.o,if_neg oC])
    rotate_left;focus
     have q: ¬old.toList=[]:=fun e=>g (oB (e.trans uV.symm));have X:(old.toList==[])=false:=by rw[beq_eq_false_iff_ne];exact q
     have b:Hid (iZ (iC l 0) ⟨key,cX,old,cY,a⟩=1):=gF (by rw[h.o,if_pos (.inr (.inl ⟨rfl,g⟩))])
  rotate_left 3
  case' true=>
   cases c
   case' false=>
    by_cases g:a=cP
    focus subst g;have b:Hid (iZ (iC l 0) ⟨key,cY,old,cX,cP⟩=0):=gF (by rw[h.o,if_neg oC])
    rotate_left;focus
     have q: ¬a.toList=[]:=fun e=>g (oB (e.trans uV.symm));have X:(a.toList==[])=false:=by rw[beq_eq_false_iff_ne];exact q
     have b:Hid (iZ (iC l 0) ⟨key,cY,old,cX,a⟩=1):=gF (by rw[h.o,if_pos (.inr (.inr ⟨rfl,g⟩))])
   rotate_left 2
   case' true=>have b:Hid (iZ (iC l 0) ⟨key,cY,old,cY,a⟩=0):=gF (by rw[h.o,if_neg oC])
 rotate_left 6;focus
  obtain⟨r,D,U⟩:=aj.o B;have ay:H.cell? ⟨v,Y+(k - 1) * 5,cN⟩=cQ (hE r.key):=by rw[j.cell ac];exact U
  have aC:(0:Int)<k:=oM
  have aB:0<k:=oM
  have aD:(k:Int) - 1<n:=oM
  have aE:(0:Int)<=(k:Int) - 1:=oM
  have aF:((k:Int) - 1).toNat=k - 1:=oM
  cases t:iB r.key key
  case' false=>
   have aw:Go.Op.bytesLess r.key.toList key.toList=false:=t;have b:Hid (iZ (iC l k) ⟨key,f,old,c,a⟩=9):=gF (by unfold iZ;rw[if_neg G.o,D];simp[t]);clear j D U t;refine p3 oP oP ?_;repeat (any_goals (first|go_big_quiet_skip| (go_big_quiet_want;go_big_quiet_op;first|go_big_quiet_on|go_big_quiet_call ((fail)))|quiet_step ((fail))))
   refine da ?_;rintro Z ⟨⟨_,i⟩,rfl⟩;have m:=E.o.gD i;clear s u P;obtain⟨s,u⟩:=m.c2;have F:=gF i;clear i m
  rotate_left
  case' true=>
   have aw:Go.Op.bytesLess r.key.toList key.toList=true:=t;have h:Hid (iZ (iC l k) ⟨key,f,old,c,a⟩=if (f=cX/\c=cX)\/(f=cX/\old≠cP)\/(c=cX/\a≠cP) then 1 else 0):=gF (by unfold iZ;rw[if_neg G.o,D];simp only[t,Bool.not_true,dA,if_false]);clear j D U t;refine p3 oP oP ?_;repeat (any_goals (first|go_big_quiet_skip| (go_big_quiet_want;go_big_quiet_op;first|go_big_quiet_on|go_big_quiet_call ((fail)))|quiet_step ((fail))))
   refine da ?_;rintro Z ⟨⟨_,i⟩,rfl⟩;have m:=E.o.gD i;clear s u P;obtain⟨s,u⟩:=m.c2;have F:=gF i;clear i m;cases f
   case' false=>
    cases c
    case' false=>have b:Hid (iZ (iC l k) ⟨key,cX,old,cX,a⟩=1):=gF (by rw[h.o,if_pos (.inl ⟨rfl,rfl⟩)])
    rotate_left
    case' true=>
     by_cases g:old=cP
     focus subst g;have b:Hid (iZ (iC l k) ⟨key,cX,cP,cY,a⟩=0):=gF (by rw[h.o,if_neg oC])
     rotate_left;focus
      have q: ¬old.toList=[]:=fun e=>g (oB (e.trans uV.symm));have X:(old.toList==[])=false:=by rw[beq_eq_false_iff_ne];exact q
      have b:Hid (iZ (iC l k) ⟨key,cX,old,cY,a⟩=1):=gF (by rw[h.o,if_pos (.inr (.inl ⟨rfl,g⟩))])
   rotate_left 3
   case' true=>
    cases c
    case' false=>
     by_cases g:a=cP
     focus subst g;have b:Hid (iZ (iC l k) ⟨key,cY,old,cX,cP⟩=0):=gF (by rw[h.o,if_neg oC])
     rotate_left;focus
      have q: ¬a.toList=[]:=fun e=>g (oB (e.trans uV.symm));have X:(a.toList==[])=false:=by rw[beq_eq_false_iff_ne];exact q
      have b:Hid (iZ (iC l k) ⟨key,cY,old,cX,a⟩=1):=gF (by rw[h.o,if_pos (.inr (.inr ⟨rfl,g⟩))])
    rotate_left 2
    case' true=>have b:Hid (iZ (iC l k) ⟨key,cY,old,cY,a⟩=0):=gF (by rw[h.o,if_neg oC])
 all_goals go_wp2;go_ret;refine⟨?_,?_⟩;rw[<-z.o,b.o];rfl;have:=iq p.o F.o;first|exact this| (rw[A.o.1] at this;exact this)
def qZ (t:Option Nd) (l:List ju):Int:=if iD cN l≠0 then iD cN l else if l.any (rk (jz t)) then 15 else 0
theorem N8 (x:Ix) (v:dt) (l:List ju) (o:Option Addr) (aw:Nat) (w:c4) (aR:rK w v x) {t:Option Nd} (aQ:n4 x=cQ t) (aE:jk o l.length aw) (aO:l.length<=1000000) (aP:oI w o l):
  c7 cS 110 #[v, hA o l.length aw] w fun e w'=>e= ht (gE ha (qZ t l))/\cT w.heap.size w w':=by
 obtain⟨aq,ay⟩:=nM (qZ t l);rw[ay];have aS:=aR;obtain⟨ad,ac,X,U,Z,Y,rfl,-,-,-⟩:=aR;have a:=Below.one w (hM (ib x.gL ad X ac U x.gI x.gJ x.gZ x.gN Z x.free.length Y) 33);have ae:=Bx.new w (ib x.gL ad X ac U x.gI x.gJ x.gZ x.gN Z x.free.length Y) 33;have az:=aS.below a;obtain⟨W0,aY⟩:=nM (w.alloc (hM (ib x.gL ad X ac U x.gI x.gJ x.gZ x.gN Z x.free.length Y) 33));rw[aY] at a ae az;have aD:=aP.below a;have aN: ∀key,rj x key=oZ (jz t) key:=fun key=>by unfold rj;rw[aQ]
 have am:=fun W (aA:cT W0.heap.size W0 W) (k:Nat) (u:k<l.length)=>N7 l k u o aw W aE aO (aD.below aA);have ao:=fun W (aA:cT W0.heap.size W0 W) (key:ByteArray)=>N6 x _ key W (az.below aA);obtain⟨n,aC⟩:=nM l.length;have aZ:=(ox aE).1;rw[aC] at aO aZ |-;have E:=gF aC;have aV:=gF aD;have al:=gF ay;have aU:=gF aN;have ag:=gF a;have am:=gF am;have ao:=gF ao;have O:=gF ae;clear aC aE aP aS aQ aD ay aN a az;go_enter func110,ntmps110;obtain⟨q,J⟩:=ae.c2;unfold ib at q;clear ae;go_wp2_with fail
 go_loopw [5,6] (fun y _ wr=> ∃k:Nat,k<=n/\y= gE ha k/\cT W0.heap.size W0 wr/\Hid (iD (iC l k) (l.drop k)=iD cN l)) (fun y _ _=>n - (intOf y).toNat)
 case atStart=>exact⟨0,dr _,rfl,dz _ _,gF rfl⟩
 case round=>
  obtain⟨k,a6,rfl,a,i⟩:=hrel;have a7:=a.size;clear q J
  by_cases aB:k<n
  .
   have u:k<l.length:=by rw[E.o];exact aB
   have B:=i.o;rw[EY u] at B;have c:=am.o _ a k u;obtain⟨af,ax⟩:=nM (iZ (iC l k) l[k]);rw[ax] at B c;rw[E.o] at c;have aH:=gF c;have z:=gF a
   by_cases H:af=0
   .
    subst H;have aj:Hid (iD (iC l (k+1)) (l.drop (k+1))=iD cN l):=gF (by rw[<-B,if_neg oC]);clear B c ax a i;go_wp2_with fail;refine aH.o.mono ?_;rintro e a0 ⟨rfl,h⟩;have p:=gF (iq z.o h);clear h;go_wp2;go_roundw;case rel=>exact⟨k+1,oM,oQ,p.o,aj⟩
    case measure=>simp[intOf];omega
   have aj:Hid (aq=af):=gF (by rw[<-al.o];unfold qZ;rw[<-B,if_pos H,if_pos H]);have a4:(af !=0)=true:=by simpa using H
   clear B c ax a i H;go_wp2_with fail;refine aH.o.mono ?_;rintro e a0 ⟨rfl,h⟩;have p:=gF (iq ag.o (iq z.o h));clear h;go_wp2;go_ret;exact⟨by rw[aj.o];rfl,p.o⟩
  obtain rfl:k=n:=oM
  have aL:iD cN l=0:=by rw[<-i.o,List.drop_of_length_le (by rw[E.o];exact cV _),iD]
  have aI:=gF aL;have z:=gF a;clear i aL a;have q:=(O.o.gD z.o).cell;have J:=(O.o.gD z.o).lt;go_wp2_with fail
  go_loopw [7,8,9] (fun y _ _ wr=> ∃b:Nat,b<=k/\y= gE ha b/\cT W0.heap.size W0 wr/\Hid (∀f∈l.take b,rk (jz t) f=cX)) (fun y _ _ _=>k - (intOf y).toNat)
  case atStart=>exact⟨0,dr _,rfl,z.o,gF oC⟩
  case round=>
   clear q J;obtain⟨b,a5,rfl,a,i⟩:=hrel;have q:=(O.o.gD a).cell;have J:=(O.o.gD a).lt;unfold ib at q
   by_cases aB:b<k
   .
    have u:b<l.length:=by rw[E.o];exact aB
    obtain⟨s,M,rfl,ab,P,R,au,T,av⟩:=aV.o.cell u;have aG:l.take (b+1)=l.take b++[l[b]]:=c0 u;obtain⟨f,c⟩:=nM (l[b]);have aM:f∈l:=by rw[<-c];exact c9 _
    rw[c] at P R au T av aG;obtain⟨key,C,old,F,L⟩:=f;simp only at P R au T av;have aX:wr.cell? ⟨s,M+b * 5,cN⟩=cQ (hE key):=by rw[a.cell ab];exact P
    have aJ:wr.cell? ⟨s,M+b * 5+1,cN⟩=cQ (hF C):=by rw[a.cell ab];exact R
    have aK:wr.cell? ⟨s,M+b * 5+3,cN⟩=cQ (hE old):=by rw[a.cell ab];exact T
    have aa:s<wr.heap.size:=iU ab a.size;obtain⟨m,r,aF⟩: ∃m r,oZ (jz t) key=(m,r):=⟨_,_,rfl⟩;have A:Hid (rk (jz t) ⟨key,C,old,F,L⟩=((decide (r=0)!=C)||decide (m≠old))):=gF (by unfold rk;simp only[aF]);have an:Hid (∀D:jv wr,c7 cS 21 #[hG (ib x.gL ad X ac U x.gI x.gJ x.gZ x.gN Z x.free.length Y), hE key] D.w fun e w'=>e= ht (hI #[hE m, gE ha r])/\cT D.w.heap.size D.w w'):=gF fun D=>by have:=ao.o D.w (iq a D.h) key;rw[aU.o,aF] at this;exact this
    have ah:=gF a;have ap:=gF (gK aG aM);clear P R au T av aF c aG aM a;have aW:=jv.cells wr;unfold ib at an;go_upto_region 10 with fail
    refine p3 oP oP ?_;repeat (any_goals (first|go_big_quiet_skip| (go_big_quiet_want;go_big_quiet_op;first|go_big_quiet_on|go_big_quiet_call (((go_at_call 21;with_reducible exact Calls.rH (an.o _)))))|quiet_step (((go_at_call 21;with_reducible exact Calls.rH (an.o _))))))
    refine da ?_;rintro ar ⟨⟨_,h⟩,rfl⟩;have a1:ar.cell? ⟨s,M+b * 5+1,cN⟩=cQ (hF C):=by rw[h.cell aa];exact aJ
    have a2:ar.cell? ⟨s,M+b * 5+3,cN⟩=cQ (hE old):=by rw[h.cell aa];exact aK
    have a3:s<ar.heap.size:=iU aa h.size;have p:=gF (iq ah.o h);clear aX aJ aK q J aW aa h;cases aT:(r==0)
    case' true=>
     have j:r=0:=by simpa using aT
     cases C
     case' true=>
      cases N:(old.toList==m.toList)
      case' true=>
       have I:m=old:=(oB (by simpa using N)).symm;have ak:Hid (∀f∈l.take (b+1),rk (jz t) f=cX):=gF (by
        rw[ap.o.1];intro f c;rcases jD.1 c with g|g;. exact i.o f g
        . rw[lx.1 g,A.o,I];simp[j])
       clear j I;go_wp2_with fail;go_roundw;case rel=>exact⟨b+1,oM,oQ,p.o,ak⟩
       case measure=>simp[intOf];omega
      case' false=>have G:rk (jz t) ⟨key,cY,old,F,L⟩=true:=by rw[A.o,Bool.or_eq_true];exact .inr (by simp;rintro rfl;simp at N)
     rotate_left
     case' false=>have G:rk (jz t) ⟨key,cX,old,F,L⟩=true:=by rw[A.o];simp[j]
    rotate_left 2
    case' false=>
     have j:r≠0:=by simpa using aT
     cases C
     case' true=>have G:rk (jz t) ⟨key,cY,old,F,L⟩=true:=by rw[A.o];simp[j]
     rotate_left
     case' false=>
      cases N:(old.toList==m.toList)
      case' true=>
       have I:m=old:=(oB (by simpa using N)).symm;have ak:Hid (∀f∈l.take (b+1),rk (jz t) f=cX):=gF (by
        rw[ap.o.1];intro f c;rcases jD.1 c with g|g;. exact i.o f g
        . rw[lx.1 g,A.o,I];simp[j])
       clear j I;go_wp2_with fail;go_roundw;case rel=>exact⟨b+1,oM,oQ,p.o,ak⟩
       case measure=>simp[intOf];omega
      case' false=>have G:rk (jz t) ⟨key,cX,old,F,L⟩=true:=by rw[A.o,Bool.or_eq_true];exact .inr (by simp;rintro rfl;simp at N)
    all_goals
     clear j;have ai:Hid (aq=15):=gF (by
      rw[<-al.o];unfold qZ;rw[if_neg (by rw[aI.o];decide),if_pos];exact List.any_eq_true.2 ⟨_,ap.o.2,G⟩)
     clear G;go_wp2_with fail;go_ret;exact⟨by rw[ai.o];rfl,iq ag.o p.o⟩
   obtain rfl:b=k:=oM
   have ai:Hid (aq=0):=gF (by
    rw[<-al.o];unfold qZ;rw[if_neg (by rw[aI.o];decide),if_neg];intro g;obtain⟨f,c,g⟩:=List.any_eq_true.1 g;have:=i.o f (by rw[db (by rw[E.o];exact cV _)];exact c);rw[this] at g;cases g)
   have ah:=gF a;clear a;go_wp2_with fail;go_ret;exact⟨by rw[ai.o];rfl,iq ag.o ah.o⟩
end Go.Proofs.YtlefmmhlpgmbjaaGreat
