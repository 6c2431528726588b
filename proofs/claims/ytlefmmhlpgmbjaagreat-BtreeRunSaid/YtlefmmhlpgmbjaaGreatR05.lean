import Derived.Test.YtlefmmhlpgmbjaaGreatR04
import Derived.Lib.AppendZerosOnto
import Derived.Lib.Overlaps
open Go renaming wpAny_take->cv,Value->cN,World->cS,setRow_heap->cT,size_zeroCells->cX,maxLen->c7,setRow_other->c9,grownCap_le_maxLen->dm,wpQuiet_nil->dn,Calls->dz,bodyPost_ret->dD,heap_alloc_new->dH,grownCap->dN,grownCap_ge->dW,TypeId->ea,run_firstCells_some->ec,run_append_room->ez,results->eC,growslice_fits->eG,mem_ready->eO,getD_both->eP
open Option renaming some->cw,none->cx,map_some->eT
open Go.Act renaming put->cy
open Go.Proofs.Tryz renaming prog->cz,underlying127->cH,underlying41->cK,underlying3->dI,results60->et,results14->eu,ntmps163->ew,ntmps161->ey,func163->eD,func161->eE
open Array renaming length_toList->cA,getElem?_eq_some_iff->cZ,getElem?_toList->dp,size_append->eb,replicate->ej,toList_setIfInBounds->ep
open Bool renaming false->cB,true->cM,and_eq_true->ei
open List renaming toList_toArray->cC,size_toArray->cE,length_take->cG,getElem?_eq_some_iff->cI,length_drop->cJ,getElem_cons_zero->cO,mem_cons_of_mem->cP,getElem_toArray->cQ,mem_append_right->cV,mem_of_mem_drop->c0,take_succ_cons->c6,mem_append_left->da,take_left'->df,nodup_cons->dh,take_of_length_le->dj,nodup_append->dk,take_append_of_le_length->dr,nil_append->dt,length_set->du,length_map->dv,drop_succ_cons->dw,mem_map->dx,take_take->dA,append_assoc->dE,getElem?_eq_getElem->dG,getElem_mem->dJ,all_eq_true->dK,take_zero->dQ,mem_range->dR,dropWhile_cons->dS,isEmpty_nil->eh,sublist_flatten_of_mem->en,getElem?_eq_none_iff->ev,getElem?_cons_zero->eA,getElem?_cons_succ->eB,drop_of_length_le->eF,getElem?_eq_none->eJ,takeWhile_cons->eL,map_eq_nil_iff->eM,map_congr_left->eN,set_cons_succ->eQ,range->eR,getElem?_take->eS
open Go.Builtin renaming zeroCells->cD,append_->ee,copy_->eo,clear_->eV
open Or renaming inl->cF
open Nat renaming le_refl->cL,mul_one->cR,min_eq_left->cU,mul_le_mul_right->dc,zero_add->dd,add_mul->ds,min->dy,zero_le->ek,lt_or_ge->eI,eq_zero_or_pos->eU
open Go.RowKit.Below renaming refl->cW,heap_setCell->cY
open Go.RowKit renaming Below->c4
open Go.Value renaming ownBlock->c5,string->db,pointer->dq,cells->dB,agg->dP,slice->eH
open ByteArray renaming empty->c8
open SizeOf renaming sizeOf->de
open Go.Region renaming ready->di,binds->dV,Mode->ed,noSelect->eg
open Go.Extern.SlicesOverlaps renaming overlaps->dF
open Go.Addr renaming add_lit->dL
open Go.IntWalk renaming i64_in->dM
open Option.some renaming injEq->dO,inj->dT
open Go.Result renaming andThen_ok->dU
open Go.World renaming shape?->dX,ownsRow_nil->dY,cell?->ef,ownsRow_made->eK
open Go.Proofs.Tryz
set_option maxRecDepth 100000
set_option maxHeartbeats 4000000
open Go.Value renaming int->gE,slice->hA,string->hE
open Go.IntKind renaming i64->ha
open Go.Ending renaming returned->ht
open Go.Obj renaming cells->hF
namespace Go.Proofs.YtlefmmhlpgmbjaaGreat
open Go.RowKit
variable {key:ByteArray}{d:ik}{gI gJ:Int}{w:cS}{g n k a m:Nat}{e:ea}{cur:Array cN}{xs:List cN}{α:Type}
def Nd.kE (key:ByteArray) (n:Nd):List Kv:=
 match _hk:n.gC[ly n.gC key]? with
 | none=>n.ps
 | some c=>c.kE key
termination_by de n
decreasing_by exact Nd.nc (List.mem_of_getElem? _hk)
theorem Nd.l8 {n:Nd} (h:n.gC=[]):n.kE key=n.ps:=by
 rw[Nd.kE];split;rfl;rename_i c f;rw[h] at f;simp at f
theorem Nd.mE {n:Nd} (h:n.gC≠[]):n.kE key=(n.gC[ly n.gC key]'(p7 key h)).kE key:=by
 rw[Nd.kE];split;rename_i f;have:=p7 key h;rw[ev] at f;omega;rename_i c f;obtain⟨j,rfl⟩:=cI.1 f;rfl
theorem Nd.rq (key:ByteArray): ∀{n:Nd},n.Wf->(n.kE key).Sublist n.iv:=by
 intro n
 induction n using Nd.ind with
 | h ps f page p=>
  intro l
  by_cases h:f=[]
  rw[Nd.l8 (n:= .mk ps f page) h,Nd.iJ (n:= .mk ps f page) h];exact List.Sublist.refl _;rw[Nd.mE (n:= .mk ps f page) h,Nd.iu (n:= .mk ps f page) h];have j:=dJ (p7 key h);exact(p _ j (l.kid _ j)).trans (en (dx.2 ⟨_,j,rfl⟩))
def pF (ps:List Kv) (key:ByteArray):ByteArray×Bool:=if jR ps key then ((ps[jM ps key]?.map (·.2)).getD c8,cM) else (c8,cB)
def o5 (o:Option Nd) (key:ByteArray):ByteArray×Bool:=
 match o with
 | none=>(c8,cB)
 | some n=>pF (n.kE key) key
theorem AT.nc {t c:AT} (h:c∈t.gC):de c<de t:=by
 cases t with|mk b pv kv ps gC page=>
  have:=List.sizeOf_lt_of_mem (show c∈gC from h);simp;omega
theorem kM.kid {n:Nd} (h:kM n): ∀k∈n.gC,kM k:=by
 cases h with
 | lf=>exact fun k f=>by cases f
 | mD _ _ _ _ f=>exact f
theorem kM.oa {n:Nd} (h:kM n):n.gC.length<=8:=by
 cases h with
 | lf=>exact ek _
 | mD _ _ _ f _=>exact f
theorem kM.sM {n:Nd} (h:kM n):n.ps.length<=3:=by
 cases h with
 | lf _ _ _ f _=>exact f
 | mD=>exact ek _
theorem J0 (key:ByteArray) (w:cS):dz cz 60 #[.pointer cx, hE key] w fun e w'=>e= ht (.tuple #[hE c8, .bool cB])/\w'=w:=by
 go_enter func60,ntmps60;go_wp2;refine dD (v:= .tuple #[hE c8, .bool cB]) (by simp[eC,et,go_sem];rfl) rfl ?_;exact⟨rfl,rfl⟩
theorem J1 (gM:Nat) (t:AT) (key:ByteArray) (w:cS) (h:h9 gM w t) (ak:kM t.nd) (au:jZ t.nd.iv):
  dz cz 60 #[t.ptr, hE key] w fun e w'=>e= ht (.tuple #[hE (o5 (cw t.nd) key).1, .bool (o5 (cw t.nd) key).2])/\c4 w.heap.size w w':=by
 obtain⟨R,af⟩:=nM (o5 (cw t.nd) key);rw[af];have aH:=gF af;have aF:=gF ((au.sub (Nd.rq key ak.wf)));have aq:=gF (gK h ak);obtain⟨aS,aA⟩:=nM (de t);have aI:=gF aA;have l:t.ptr= .pointer (cw ⟨t.b,0,cx⟩):=rfl;rw[l];obtain⟨aZ,al⟩:=nM t.b;rw[al];have aJ:=gF al;clear af h ak au aA l al;go_enter func60,ntmps60;go_wp2
 go_loopg [0] aS (fun k aR wr=> ∃z:AT,aR= .pointer (cw ⟨z.b,0,cx⟩)/\Hid (h9 gM wr z/\kM z.nd/\z.nd.kE key=t.nd.kE key/\de z=k)/\c4 w.heap.size w wr)
 case atStart=>exact⟨t,by rw[aJ.o],gF ⟨aq.o.1,aq.o.2,rfl,aI.o⟩,cW _ _⟩
 case round=>
  obtain⟨z,rfl,O,T⟩:=hrel;obtain⟨r,y,N,X⟩:=O.o;have aC:=T.size;obtain⟨b,pv,kv,ps,f,page⟩:=z;have s:=r.hx;have l:=r.hp;have D:=r.hk;have I:=r.hc;simp only[AT.b,AT.pv,AT.kv,AT.ps,AT.gC,AT.page] at s l D I;simp only[AT.b]
  by_cases M:f=[]
  .
   subst M;have W:ps=t.nd.kE key:=by rw[<-N,Nd.l8 (by rw[AT.gT];rfl),AT.jb];rfl
   have ag:jZ ps:=by rw[W];exact aF.o
   have aM:ps.length<=3:=by have:=y.sM;rw[AT.jb] at this;exact this
   have x:=Bf gM b cM pv kv page ps key wr s l ag oM;have H:pF ps key=R:=by rw[<-aH.o,W];rfl
   obtain⟨F,C⟩:=nM (jM ps key);have aV:Hid (pF ps key=R):=gF H;have aU:=gF C;rw[C] at x;obtain⟨j,Y⟩:=s.c2;unfold gX at j;simp only[eh] at j;cases p:jR ps key
   case' false=>rw[p] at x;have aa:=gF x;have Z:Hid (R=(c8,cB)):=gF (by rw[<-H];unfold pF;rw[p];rfl);clear x H C p r y N X D I O l W ag s;go_wp2_with fail;refine aa.o.mono ?_;rintro e am ⟨rfl,q⟩;go_wp2;refine dD (v:= .tuple #[hE c8, .bool cB]) (by simp[eC,et,go_sem];rfl) rfl ?_
   rotate_left
   case' true=>
    rw[p] at x;have ae:F<ps.length:=by unfold jR at p;rw[C] at p;have:=of_decide_eq_true p;rcases eI F ps.length with h|h;exact h;rw[eJ oM] at this;cases this
    obtain⟨g,c,rfl,-,ac,aj,J⟩:=vO l ae;have ah:=(l.lt g J).2;have Z:Hid (R=(ps[F].2,cM)):=gF (by rw[<-H];unfold pF;rw[p,if_pos rfl,C,dG ae];rfl);have aa:=gF x;obtain⟨aE,aB⟩:=nM (ps[F].2);rw[aB] at ac Z;obtain⟨n,E⟩:=nM ps.length;rw[E] at j ae aj;have aK:=gF s;clear x H C p r y N X D I O l W ag aB E J aM s;go_wp2_with fail;refine aa.o.mono ?_;rintro e am ⟨rfl,q⟩;have aT:=aK.o.gD q;have aX:am.cell? ⟨g,F * 2+1,cx⟩=cw (hE aE):=by rw[q.cell ah];exact ac
    have aY:g<am.heap.size:=iU ah q.size;clear ac j Y;obtain⟨j,Y⟩:=aT.c2;unfold gX at j;simp only[eh] at j;go_wp2;refine dD (v:= .tuple #[hE aE, .bool cM]) (by simp[eC,et,go_sem]) rfl ?_
   all_goals rw[Z.o];exact⟨rfl,Below.then T q aC⟩
  have ai:f.map AT.nd≠[]:=by simpa using M
  have aP:0<f.length:=List.length_pos_iff.2 M;have ad:=p7 key ai;obtain⟨u,U⟩:=nM (ly (f.map AT.nd) key);have az:=Nd.mE (key:=key) (n:=(AT.mk b pv kv ps f page).nd) (by rw[AT.gT];exact ai);have V:=y.oa;rw[AT.gT] at V;have aQ:f.length<=8:=by rw[dv] at V;exact V
  have ax: ∀c∈f,c.nd.first=true:=fun c aO=>(y.kid _ (by rw[AT.gT];exact dx.2 ⟨c,aO,rfl⟩)).first;have av: ∀B,c4 wr.heap.size wr B->dz cz 100 #[.pointer (cw ⟨b,0,cx⟩), hE key] B fun e w'=>e= ht (gE ha u)/\c4 B.heap.size B w':=fun B aN=>by have:=Bg gM (.mk b pv kv ps f page) key B (r.ij aN) M ax (by show f.length<=1000;omega);refine this.mono ?_;rintro e w' ⟨rfl,rfl⟩;exact⟨by rw[<-U];rfl,cW _ _⟩
  have G:u<f.length:=by rw[U,dv] at ad;exact ad
  obtain⟨g,c,rfl,ab,aj,J⟩:=qH D G;have ah:=(D.lt g J).2;have hrel:Hid (h9 gM wr f[u]/\kM f[u].nd/\f[u].nd.kE key=t.nd.kE key/\de f[u]<gk):=gF ⟨I _ (dJ G),y.kid _ (by rw[AT.gT];exact dx.2 ⟨_,dJ G,rfl⟩),by rw[<-N,az];congr 1;simp only[AT.gT,AT.gC,U,List.getElem_map],by rw[<-X];exact AT.nc (dJ G)⟩
  have aw:f.isEmpty=false:=by cases f<;>simp_all
  have ar:=gF av;obtain⟨aD,ay⟩:=nM (f[u]);rw[ay] at hrel ab;unfold AT.ptr at ab;obtain⟨n,E⟩:=nM f.length;obtain⟨j,Y⟩:=s.c2;unfold gX at j;rw[aw,E] at j;rw[E] at G aj;have ap:Hid (∀ao:jv wr,c4 wr.heap.size wr ao.w):=gF fun ao=>ao.h;have aL:=jv.cells wr;have aG:=gF T;clear r y N X s l D I O M ai aP ad U az V aQ ax av J aw ay E T;go_upto_region 4 with fail
  refine p3 oP oP ?_;repeat (any_goals (first|go_big_quiet_skip| (go_big_quiet_want;go_big_quiet_op;first|go_big_quiet_on|go_big_quiet_call (((go_at_call 100;with_reducible exact Calls.rH (ar.o _ (ap.o _))))))|quiet_step (((go_at_call 100;with_reducible exact Calls.rH (ar.o _ (ap.o _)))))))
  refine dn ?_;rintro aW ⟨⟨_,q⟩,rfl⟩;clear aL j Y ab;go_wp2
  go_roundg (de aD)
  case rel=>exact⟨aD,rfl,gF ⟨hrel.o.1.ij q,hrel.o.2.1,hrel.o.2.2.1,rfl⟩,Below.then aG.o q aC⟩
  case measure=>exact hrel.o.2.2.2
theorem J2 (gM:Nat) (o:Option AT) (key:ByteArray) (w:cS) (h:nK gM w o) (f: ∀t,o=cw t->kM t.nd/\jZ t.nd.iv):
  dz cz 60 #[jP o, hE key] w fun e w'=>e= ht (.tuple #[hE (o5 (pq o) key).1, .bool (o5 (pq o) key).2])/\c4 w.heap.size w w':=by
 cases o with
 | none=>refine(J0 key w).mono ?_;rintro e w' ⟨rfl,rfl⟩;exact⟨rfl,cW _ _⟩
 | some t=>exact J1 gM t key w (h t rfl).1 (f t rfl).1 (f t rfl).2
theorem J3 {r:Nat} {t:Option Nd} {u:List Int} (q:iW d=0) (s:jE d gI gJ=cM) (h:ng d gI gJ r=cw (t,u)):
  pj gI gJ u/\ ∀n,t=cw n->kM n/\jZ n.iv/\n.iv.length<=6000:=by
 obtain⟨y,z,B,C,D⟩:=ra s;have F:=pd (nY q).1;unfold ng at h;split at h;simp only[dO,Prod.mk.injEq] at h;obtain⟨rfl,rfl⟩:=h;exact⟨⟨List.nodup_nil,fun _ h=>by cases h⟩,fun n h=>by cases h⟩;split at h;cases h;rename_i n k G f;split at h;rename_i p;simp only[dO,Prod.mk.injEq] at h;obtain⟨rfl,rfl⟩:=h;have j:=(y6 _ f ⟨List.nodup_nil,fun _ h=>by cases h⟩).1;refine⟨j,fun m x=>?_⟩;cases x;refine⟨A7 _ f,(vI _).1 p,?_⟩;have l:=A8 _ f;have E:=j.len oM;simp at l;omega;cases h
theorem Bh (h:iQ d gI gJ=0):iW d=0/\jE d gI gJ=true:=by
 unfold iQ at h;split at h;cases h;split at h;cases h;rename_i f j;exact⟨by simpa using f,by simpa using j⟩
theorem J4 {x:Ix} {t:Option Nd} (h:mz x=cw t): ∀n,t=cw n->kM n/\jZ n.iv/\n.iv.length<=6000:=by
 unfold mz at h;split at h;cases h;rename_i l;obtain⟨j,p⟩:=Bh (by simpa using l);split at h;cases h;rename_i y r f;split at h;cases h;unfold j7 at f;split at f;cases f;split at f;cases f;rename_i s u q;cases f;exact(J3 j p q).2;cases h
theorem tZ (w:cS) (g:Nat) (f:Array cN):w.grownBy (w.setRow g f) (cw g):=
 ⟨rfl,rfl,rfl,oC,fun k _ h=>c9 w g k _ fun e=>h (by rw[e])⟩
theorem setRow_size (w:cS) (g:Nat) (f:Array cN):(w.setRow g f).heap.size=w.heap.size:=oC
theorem gW.mk' {gM f:Nat} (p:xs.length=n * k) (h:gM<=g) (l:w.heap[g]?=cw (hF cur e (0,0))) (q:n<=f) (j:f<=c7) (r:f * k<=cur.size) (s:cur.toList.take (n * k)=xs):
  gW w gM e k (hA (cw ⟨g,0,cx⟩) n f) n xs:=⟨p, .inr ⟨g,f,cur,rfl,h,l,q,j,r,s⟩⟩
section
variable {P:Program}
theorem Eu (w:cS) (gM:Nat) (t y e:ea) (i:TypeInfo) (z:cN) (k s:Nat) (G:P.underlying t=cw (.slice e)) (C:P.info? e=cw i) (T:i.zero=cw z)
  (q:i.size=k) (N:i.bytes=s) (U:z.cells.size=k) (af:0<k) (v:cN) (n:Nat) (xs:List cN) (h:gW w gM e k v n xs) (a:Addr) (m c:Nat) (f:List cN)
  (l:f.length=m * k) (E: ∀j u,f[j]?=cw u->w.cell? (a.add j)=cw u) (J: ∀u∈f,u.oneCell'=cM) (ad:n+m<=1000000) (Z:s<=64) (M:gM<=w.heap.size):
  ∃v' w',(ee #[t,t] y #[v, hA (cw a) m c]).run P w= .ok v' w'/\gW w' gM e k v' (n+m) (xs++f)/\w.grownBy w' v.ownBlock/\(v'.ownBlock=v.ownBlock\/v'.ownBlock=cw w.heap.size):=by
 have ah:(n+m) * s<=64000000:=jU (Nat.mul_le_mul ad Z) oF;rcases h.2 with⟨rfl,rfl⟩|⟨g,r,cur,rfl,Y,B,ai,aa,ae,H⟩;have ag:xs=[]:=List.eq_nil_of_length_eq_zero (by simpa using h.1);subst ag;obtain⟨v',w',p,V,W,-,X⟩:=run_append_own_at (P:=P) w gM t y e i z k s G C T q N U af (hA cx 0 0) 0 [] (dY _ _ _ _) a m c f l E J (by unfold c7;omega) oM M;exact⟨v',w',p,gW.own V,W,X⟩;have D:(xs++f).length=(n+m) * k:=by rw[iI,h.1,l,ds]
 have I:(cur.toList.take (n * k)).length=n * k:=by rw[H];exact h.1
 by_cases F:n+m<=r
 have O:n * i.size+f.length<=cur.size:=by rw[q,l, <-ds];exact jU (dc _ F) ae
 have p:=ez (P:=P) w t y e i G C g n r cur B a m c f (by rw[q];exact l) E J F O;rw[q] at p O;refine⟨_,_,p,gW.mk' D Y (cT w g cur _ e _ B) F aa ?_ ?_,tZ w g _, .inl rfl⟩;simp only[cE,iI,cJ,I,cA];omega;rw[cC, <-H,dr (by rw[iI,I,l,ds];exact cL _)];exact dj (by rw[iI,I,l,ds];exact cL _);have ab: ∀j u,xs[j]?=cw u->w.cell? ((⟨g,0,cx⟩:Addr).add j)=cw u:=fun j u x=>by rw[dL,dd];have R:=(cI.1 x).1;have:=vM H R;simp[ef,B];rw[<-dp,this];rw[<-x,dG R]
 have p:=run_append_grow (P:=P) w t y e i z G C T ⟨g,0,cx⟩ n r xs (by rw[q];exact h.1) ab a m c f (by rw[q];exact l) E oM oM (by rw[N];exact eG oM oM);have ac:=dW w (n+m) r e;refine⟨_,_,p,gW.mk' D M (dH w.drew _) ac (dm w (n+m) r e (by unfold c7;omega)) ?_ ?_,⟨rfl,rfl,rfl,oC,fun j x _=>Below.heap_alloc w.drew _ j x⟩, .inr rfl⟩;simp only[eb,cE,cX,U,h.1,l, <-ds];refine dc _ ?_;omega;simp only[Array.toList_append];rw[<-D,df (by simp[List.length_append])]
theorem uS (w:cS) (p G H e:ea) (i:TypeInfo) (k:Nat) (F:P.underlying p=cw (.slice e)) (B:P.info? e=cw i) (D:i.size=k) (g o:Nat) (cur:Array cN) (z:w.heap[g]?=cw (.cells cur e (0,0))) (l s:Nat) (a:Addr) (h r:Nat) (f:List cN)
  (C:f.length=dy h l * k) (E: ∀j u,f[j]?=cw u->w.cell? (a.add j)=cw u) (t: ∀u∈f,u.oneCell'=cM) (y:o+f.length<=cur.size):
  (eo #[p,G] H #[hA (cw ⟨g,o,cx⟩) l s, hA (cw a) h r]).run P w= .ok (goInt (dy h l)) (w.setRow g (cur.toList.take o++f++cur.toList.drop (o+f.length)).toArray):=by
 have x:=ec (P:=P) w i.size (dy h l) a h r f (by rw[D];exact C) E;have q:=run_storeCells_at P g o e f 0 cur w z (by simpa using y) t;simp only[Nat.add_zero] at q;simp only[eo,List.getElem?_toArray,eA,eB,Sem.run_bind,Sem.run_pure,dU,run_underlying F,Builtin.lenOf,sizeOf,typeInfo];simp[B,x,q]
theorem Ev (w:cS) (t e F:ea) (z:cN) (k:Nat) (y:P.underlying t=cw (.slice e)) (B: ∀w,(zeroValue e).run P w= .ok z w) (C:z.cells.size=k) (p: ∀u∈z.cells.toList,u.oneCell'=cM) (g o n c:Nat) (G:0<n) (cur:Array cN) (r:w.heap[g]?=cw (.cells cur e (0,0))) (q:o+n * k<=cur.size):
  ∃zs:List cN,zs.length=n * k/\(eV #[t] F #[hA (cw ⟨g,o,cx⟩) n c]).run P w= .ok (.tuple #[]) (w.setRow g (cur.toList.take o++zs++cur.toList.drop (o+n * k)).toArray):=by
 obtain⟨m,rfl⟩: ∃m,n=m+1:=⟨n - 1,oM⟩;have f:(cD z.cells (m+1)).toList.length=(m+1) * k:=by rw[cA,cX,C]
 have D: ∀u∈(cD z.cells (m+1)).toList,u.oneCell'=true:=by
  intro u l;simp only[cD,Array.toList_map,dx,Array.toList_range,dR] at l;obtain⟨E,s,rfl⟩:=l
  by_cases x:z.cells.size=0
  rw[x] at s;omega;have h:E % z.cells.size<z.cells.size:=Nat.mod_lt _ oM;rw[getElem!_pos z.cells _ h];exact p _ (Array.getElem_mem_toList h)
 refine⟨_,f,?_⟩;have j:=run_storeCells_at P g o e (cD z.cells (m+1)).toList 0 cur w r (by rw[f];simpa using q) D;simp only[Nat.add_zero,f] at j;simp[eV,run_underlying y,B,j]
end
section
variable {P:Program} {ops:Array Oper} {rest:List Oper} {o:Oper} {a:Act} {K:Act->cS->Prop} {Q:Exit->Act->cS->Prop} {w:cS}
theorem l9 (d s:Operand) (t f:ea) (r:o.op= .call { callee:= .builtin .copy,args:=#[d,s],argTypes:=#[t,f] }) (v h:cN) (q:a.eval d=v) (x:a.eval s=h) {j:cN} {l:cS}
  (u:(eo #[t,f] o.type #[v,h]).run P w= .ok j l) (p:K (a.put o.dst j) l):o.wp P a w K Q:=by
 unfold Oper.wp execOp;simp only[r,resolve,invoke,builtin,Sem.run_bind,Sem.run_pure,dU,List.map_toArray,List.map_cons,List.map_nil,q,x,u];exact p
theorem wp_append_run (d s:Operand) (t f:ea) (r:o.op= .call { callee:= .builtin .append,args:=#[d,s],argTypes:=#[t,f] }) (v h:cN) (q:a.eval d=v) (x:a.eval s=h) {j:cN} {l:cS}
  (u:(ee #[t,f] o.type #[v,h]).run P w= .ok j l) (p:K (a.put o.dst j) l):o.wp P a w K Q:=by
 unfold Oper.wp execOp;simp only[r,resolve,invoke,builtin,Sem.run_bind,Sem.run_pure,dU,List.map_toArray,List.map_cons,List.map_nil,q,x,u];exact p
theorem zf (r:o.guard=cx) (d s:Operand) (t f:ea) (u:o.op= .call { callee:= .builtin .append,args:=#[d,s],argTypes:=#[t,f] }) (v h:cN) (q:a.eval d=v) (y:a.eval s=h) {j:cN} {l:cS}
  (x:(ee #[t,f] o.type #[v,h]).run P w= .ok j l) (p:wpList P ops Q rest (a.put o.dst j) l):wpList P ops Q (o::rest) a w:=
 wpList_plain r fun _ hK=>wp_append_run d s t f u v h q y x (hK _ _ p)
end
theorem wY (l:w.heap[g]?=cw (hF cur e (0,0))) (p:cur.toList.take (n * k)=xs) (o:Nat):
  ∀j u,(xs.drop o)[j]?=cw u->w.cell? ((⟨g,o,cx⟩:Addr).add j)=cw u:=by
 intro j u f;rw[List.getElem?_drop] at f;have h:=(cI.1 f).1;have:=vM p h;rw[dL];simp[ef,l];rw[<-dp,this];rw[<-f,dG h]
theorem ua {ys:List cN} (h:Bx w g ys.toArray e): ∀j u,ys[j]?=cw u->w.cell? ((⟨g,0,cx⟩:Addr).add j)=cw u:=by
 intro j u f;rw[dL,dd,h.cell];simpa using f
theorem Ew {C xs ys:List α} (t:C.take m=xs) (y:m+k<=C.length) (u:a<=m) (h:ys.length=k) (x:xs.length=m):
  (((C.take (a+k)++xs.drop a++C.drop (a+k+(xs.drop a).length)).take a++ys++(C.take (a+k)++xs.drop a++C.drop (a+k+(xs.drop a).length)).drop (a+ys.length)).take (m+k)=xs.take a++ys++xs.drop a)/\
  ((C.take (a+k)++xs.drop a++C.drop (a+k+(xs.drop a).length)).take a++ys++(C.take (a+k)++xs.drop a++C.drop (a+k+(xs.drop a).length)).drop (a+ys.length)).length=C.length/\(C.take (a+k)++xs.drop a++C.drop (a+k+(xs.drop a).length)).length=C.length:=by
 have f:(xs.drop a).length=m - a:=by rw[cJ,x]
 have q:(C.take (a+k)).length=a+k:=by rw[cG];omega
 obtain⟨R,l⟩:=nM (C.drop (a+k+(xs.drop a).length));have p:R.length=C.length - (a+k+(m - a)):=by rw[<-l,cJ,f]
 rw[l];have r:(C.take (a+k)++xs.drop a++R).take a=xs.take a:=by rw[dE,dr oM,dA, <-t,dA,cU oM,cU u]
 have s:(C.take (a+k)++xs.drop a++R).drop (a+ys.length)=xs.drop a++R:=by rw[dE,h];exact List.drop_left' q
 have j:(xs.take a).length=a:=by rw[cG];omega
 rw[r,s];refine⟨?_,?_,?_⟩;rw[<-dE];refine df ?_;rw[iI,iI,j,h,f];omega;rw[iI,iI,iI,j,h,f,p];omega;rw[iI,iI,q,f,p];omega
theorem Ex {xs Z ys:List α} (B:m+k - a<=Z.length) (C:a<=m) (s:ys.length=k) (z:xs.length=m):
  ((((xs.take a++Z).take a++ys++(xs.take a++Z).drop (a+ys.length)).take (a+k)++xs.drop a++((xs.take a++Z).take a++ys++(xs.take a++Z).drop (a+ys.length)).drop (a+k+(xs.drop a).length)).take (m+k)=xs.take a++ys++xs.drop a)/\
  (((xs.take a++Z).take a++ys++(xs.take a++Z).drop (a+ys.length)).take (a+k)++xs.drop a++((xs.take a++Z).take a++ys++(xs.take a++Z).drop (a+ys.length)).drop (a+k+(xs.drop a).length)).length=a+Z.length/\
  ((xs.take a++Z).take a++ys++(xs.take a++Z).drop (a+ys.length)).length=a+Z.length:=by
 have l:(xs.drop a).length=m - a:=by rw[cJ,z]
 have j:(xs.take a).length=a:=by rw[cG];omega
 have u:(xs.take a++Z).take a=xs.take a:=df j;rw[u];obtain⟨h,p⟩:=nM ((xs.take a++Z).drop (a+ys.length));have r:h.length=Z.length - k:=by rw[<-p,cJ,iI,j,s];omega
 rw[p];have f:(xs.take a++ys).length=a+k:=by rw[iI,j,s]
 have x:(xs.take a++ys++h).take (a+k)=xs.take a++ys:=df f;rw[x];obtain⟨t,q⟩:=nM ((xs.take a++ys++h).drop (a+k+(xs.drop a).length));have y:t.length=h.length - (m - a):=by rw[<-q,cJ,iI,f,l];omega
 rw[q];refine⟨?_,?_,?_⟩;refine df ?_;rw[iI,f,l];omega;rw[iI,iI,f,l,y,r];omega;rw[iI,f,r];omega
open Go.RowKit Go.Shelf
variable {w:cS}{gM k n:Nat}{e:ea}{v:cN}{xs:List cN}{S:Nat->Prop}
theorem J5 (gM:Nat) (v:cN) (n:Nat) (xs:List cN) (w:cS) (h:gW w gM 77 2 v n xs) (i:Nat) (aH:i<=n) (p:Nat) (ys:List cN) (t:ys.length=2) (s:Bx w p ys.toArray 77) (a5:v.ownBlock≠cw p)
  (ay: ∀u∈xs,u.oneCell'=cM) (ao: ∀u∈ys,u.oneCell'=cM) (bp:n<=1000) (aZ:gM<=w.heap.size):
  dz cz 161 #[v, gE ha i, hA (cw ⟨p,0,cx⟩) 1 1] w fun e w'=> ∃v',e= ht v'/\gW w' gM 77 2 v' (n+1) (xs.take (i * 2)++ys++xs.drop (i * 2))/\w.grownBy w' v.ownBlock/\(v'.ownBlock=v.ownBlock\/v'.ownBlock=cw w.heap.size):=by
 obtain⟨H,N,ah,G,X⟩:=info_parts sy
 by_cases au:i=n
 .
  subst au;obtain⟨o,c,rfl,a',-⟩:=h.at;have a0:i<=c:=by rcases a' with⟨_,h,_⟩|⟨_,_,h,_⟩<;>omega
  have O:=h.1;obtain⟨v',w',aK,ab,ac,az⟩:=Eu (P:=cz) w gM 41 41 77 H _ 2 32 cK N ah G X rfl oF _ i xs h ⟨p,0,cx⟩ 1 1 ys (by rw[t]) (ua s) ao oM oF aZ;have aR:=gF aK;have ak:=gF (gK ab (gK ac az));clear aK ab ac az h
  by_cases a1:c=i
  focus subst a1
  rotate_left;focus have bl:i<=c:=a0
  all_goals go_enter eE,ey;go_wp2_with (at_builtin;refine zf rfl _ _ 41 41 rfl _ _ rfl rfl aR.o ?_);go_ret;rw[dj oM,eF oM,List.append_nil];exact⟨v',rfl,ak.o.1,ak.o.2.1,ak.o.2.2⟩
 have bm:i<n:=oM
 rcases h.2 with⟨rfl,bj⟩|⟨g,f,cur,rfl,aX,B,bq,aC,a9,ag⟩;omega;have O:=h.1;have bo:f<=9223372036854775807:=by unfold c7 at aC;omega
 have aI:((i:Int)+1)=((i+1:Nat):Int):=oM
 have J:(xs.drop (i * 2)).length=(n - i) * 2:=by rw[cJ,O];omega
 have aq:=fun aw u E=>wY B ag (i * 2) aw u E
 by_cases a8:n+1<=f
 .
  have bc: ¬((i:Int)=(n:Int)):=oM
  have bd:((i:Int)==(n:Int))=false:=oN
  have V:IntKind.i64.wrap ((i:Int)+1)=(i:Int)+1:=dM _ oM;have aT:(0:Int)<=(i:Int)+1:=oM
  have aS:i<=n:=oM
  have bb:((i:Int)+1).toNat=i+1:=oM
  have aU: ¬(f=i+1):=oM
  have be:(i:Int)<=(n:Int)+1:=oM
  have aV: ¬(f=i):=oM
  have aW: ¬((f:Int)<(n:Int)+1):=oM
  have bf:(n:Int)+1<=(f:Int):=oM
  have aL:w.shape? p=cw (77,ys.toArray.size):=by unfold Bx at s;simp[dX,s]
  have aM:w.shape? g=cw (77,cur.size):=by simp[dX,B]
  have aG:p≠g:=fun e=>a5 (by rw[e];rfl);have a6: ∀ax al,(callFunc 188 #[hA (cw ⟨p,0,cx⟩) 1 1, hA (cw ⟨g,(i+1) * 2,cx⟩) ax al]).run cz w= .ok (.value (.bool cB)) w:=fun ax al=>by
   rw[run_callFunc_extern func188 oP oP oP (e:=dF #[41,41] #[4]) oP,
    Lib.run_overlaps_apart w 41 4 77 cK 2 sizeOf77 ⟨p,0,cx⟩ ⟨g,(i+1) * 2,cx⟩ 1 1 ax al aG _ _ _ _ aL aM oM (s.free 0) (s.free _)]
   rfl
  have aQ:=gF aq;have aa:=gF (gK N (gK ah (gK G X)));have aO:=gF (gK h s);clear aq N ah G X aI aL aM s h aH au;go_enter eE,ey;go_wp2_with (simp only[a6]);have F:=Ew (C:=cur.toList) (xs:=xs) (ys:=ys) (a:=i * 2) (m:=n * 2) (k:=2) ag (by rw[cA];omega) oM t O;have am:(i+1) * 2=i * 2+2:=oM
  have y:=uS (P:=cz) w.drew 41 41 3 77 H 2 cK aa.o.1 aa.o.2.2.1 g ((i+1) * 2) cur B (n+1 - (i+1)) (f - (i+1)) ⟨g,i * 2,cx⟩ (n+1 - i) (f - i) (xs.drop (i * 2))
   (by rw[J,show dy (n+1 - i) (n+1 - (i+1))=n - i from (Nat.min_eq_right oM).trans oM]) aQ.o (fun u av=>ay u (c0 av)) (by rw[J];omega)
  rw[<-am] at F;obtain⟨l,T⟩:=nM (cur.toList.take ((i+1) * 2)++xs.drop (i * 2)++cur.toList.drop ((i+1) * 2+(xs.drop (i * 2)).length));rw[T] at y F;have D:(w.drew.setRow g l.toArray).heap[g]?=cw (.cells l.toArray 77 (0,0)):=cT w.drew g cur _ _ _ B;have W:Bx (w.drew.setRow g l.toArray) p ys.toArray 77:=(c9 w.drew g p _ aG).trans aO.o.2;have q:=uS (P:=cz) (w.drew.setRow g l.toArray) 41 41 3 77 H 2 cK aa.o.1 aa.o.2.2.1 g (i * 2) l.toArray D (n+1 - i) (f - i) ⟨p,0,cx⟩ 1 1 ys
   (by rw[t,show dy 1 (n+1 - i)=1 from cU oM]) (ua W) ao (by rw[t,cE,F.2.2,cA];omega)
  rw[cC] at q;obtain⟨r,U⟩:=nM (l.take (i * 2)++ys++l.drop (i * 2+ys.length));rw[U] at q F;have M:((w.drew.setRow g l.toArray).setRow g r.toArray).heap[g]?=cw (hF r.toArray 77 (0,0)):=cT _ g _ _ _ _ D;have R:Hid (gW ((w.drew.setRow g l.toArray).setRow g r.toArray) gM 77 2 (hA (cw ⟨g,0,cx⟩) (n+1) f) (n+1) (xs.take (i * 2)++ys++xs.drop (i * 2))/\w.grownBy ((w.drew.setRow g l.toArray).setRow g r.toArray) (cw g)):=gF ⟨gW.mk' (by rw[iI,iI,cG,t,J,O];omega) aX M a8 aC (by rw[cE,F.2.1,cA];exact a9) (by rw[cC,show(n+1) * 2=n * 2+2 by omega];exact F.1),
   ((⟨rfl,rfl,rfl,cL _,fun _ _ _=>rfl⟩:w.grownBy w.drew (cw g)).trans (tZ _ g _)).trans (tZ _ g _)⟩
  have ai:=gF y;have aj:=gF q;clear F T U D W M y q;refine qm #[cB,cB,cB,cB,cB,cB,cB,cB,cB] 9 oP oO rfl ?_;refine cv (i:=0) (v:=(hA (cw ⟨g,0,cx⟩) (n+1) f)) rfl oP oP oP (fun _ _ _ h=>h) (cF ⟨oO,fun w=>by first|rfl| (go_simp;try with_reducible rfl)⟩) ?_;simp only[cQ,cO,cy,gU];refine cv (i:=1) (v:=(gE ha i)) rfl oP oP oP (fun _ _ _ h=>h) (cF ⟨oO,fun w=>by first|rfl| (go_simp;try with_reducible rfl)⟩) ?_;simp only[ki,cy,gU];refine cv (i:=2) (v:=(gE ha 1)) rfl oP oP oP (fun _ _ _ h=>h) (cF ⟨oO,fun w=>by first|rfl| (go_simp;try with_reducible rfl)⟩) ?_;simp only[ki,cy,gU];refine cv (i:=3) (v:=(gE ha ((i:Int)+1))) rfl oP oP oP (fun _ _ _ h=>h) (cF ⟨oO,fun w=>by first|rfl| (go_simp;try with_reducible rfl)⟩) ?_;simp only[ki,cy,gU];refine cv (i:=4) (v:=(hA (cw ⟨g,(i+1) * 2,cx⟩) (n+1 - (i+1)) (f - (i+1)))) rfl oP oP oP (fun _ _ _ h=>h) (cF ⟨oO,fun w=>by first|rfl| (go_simp;try with_reducible rfl)⟩) ?_;simp only[ki,cy,gU];refine cv (i:=5) (v:=(hA (cw ⟨g,0,cx⟩) (n+1) f)) rfl oP oP oP (fun _ _ _ h=>h) (cF ⟨oO,fun w=>by first|rfl| (go_simp;try with_reducible rfl)⟩) ?_;simp only[ki,cy,gU];refine cv (i:=6) (v:=(gE ha i)) rfl oP oP oP (fun _ _ _ h=>h) (cF ⟨oO,fun w=>by first|rfl| (go_simp;try with_reducible rfl)⟩) ?_;simp only[ki,cy,gU];refine cv (i:=7) (v:=(hA (cw ⟨g,i * 2,cx⟩) (n+1 - i) (f - i))) rfl oP oP oP (fun _ _ _ h=>h) (cF ⟨oO,fun w=>by first|rfl| (go_simp;try with_reducible rfl)⟩) ?_;simp only[ki,cy,gU];refine iG 8 fun K hK=>?_;refine l9 _ _ 41 41 rfl _ _ rfl rfl ai.o ?_;refine hK _ _ ?_;clear hK K;simp only[cy,gU];refine kS ?_;have q:=aj.o;go_wp2;go_ret;exact⟨_,rfl,R.o.1,R.o.2, .inl rfl⟩
 obtain⟨Y,a7⟩:=nM (n+1 - i);obtain⟨j,ad⟩:=nM w.heap.size;have a2:g<w.heap.size:=(cZ.1 B).1;have aJ:(xs.take (i * 2)).length=i * 2:=by rw[cG];omega
 have aD:=ec (P:=cz) w.drew H.size i ⟨g,0,cx⟩ i f (xs.take (i * 2)) (by rw[G];exact aJ) (fun aw u E=>by
  have bn:=(cI.1 E).1;rw[dL,dd];have ab:xs[aw]?=cw u:=by rw[eS] at E;split at E;exact E;cases E
  obtain⟨a3,a4⟩:=cI.1 ab;have ac:=vM ag a3;show w.cell? _=_;simp[ef,B];rw[<-dp,ac,a4])
 have I:=Lib.run_append_grow_zeros (P:=cz) w 41 3 41 77 H _ .i64 .i64 cK dI N ah (cw ⟨g,0,cx⟩) i f (xs.take (i * 2)) aD Y oM (by rw[G];decide) oM oM (by rw[X];omega) (by rw[X];exact eG oM oM);rw[show i+Y=n+1 by omega] at I;have ar:=dW w (n+1) f 77;have af:=dm w (n+1) f 77 (by unfold c7;omega);obtain⟨C,aB⟩:=nM (dN w (n+1) f 77);rw[aB] at I ar af;have bk:C<=9223372036854775807:=by unfold c7 at af;omega
 obtain⟨Z,ap⟩: ∃Z:List cN,(cD (dP #[db .empty,db .empty]).cells Y).toList++(cD (dP #[db .empty,db .empty]).cells (C - (n+1))).toList=Z:=⟨_,rfl⟩;have ae:Z.length=C * 2 - i * 2:=by rw[<-ap,iI,cA,cA,cX,cX];simp[dB];omega
 have aA:(xs.take (i * 2)).toArray++cD (dP #[db .empty,db .empty]).cells Y++cD (dP #[db .empty,db .empty]).cells (C - (n+1))=(xs.take (i * 2)++Z).toArray:=by apply Array.ext';rw[<-ap];simp
 rw[aA,ad] at I;have z:=Ex (xs:=xs) (Z:=Z) (ys:=ys) (a:=i * 2) (m:=n * 2) (k:=2) oM oM t O;obtain⟨w1,V⟩:=nM (w.drew.alloc (hF (xs.take (i * 2)++Z).toArray 77));have x:c4 w.heap.size w w1:=by rw[<-V];exact((cW _ w).drew).alloc (cL _) _
 have D:w1.heap[j]?=cw (hF (xs.take (i * 2)++Z).toArray 77 (0,0)):=by rw[<-V, <-ad];exact dH w.drew _
 have W:Bx w1 p ys.toArray 77:=s.gD x;have q:=uS (P:=cz) w1 41 41 3 77 H 2 cK N G j (i * 2) _ D (n+1 - i) (C - i) ⟨p,0,cx⟩ 1 1 ys
  (by rw[t,show dy 1 (n+1 - i)=1 from cU oM]) (ua W) ao (by rw[t,cE,iI,aJ,ae];omega)
 rw[cC] at q;obtain⟨l,T⟩:=nM ((xs.take (i * 2)++Z).take (i * 2)++ys++(xs.take (i * 2)++Z).drop (i * 2+ys.length));rw[T] at q z;have M:(w1.setRow j l.toArray).drew.heap[j]?=cw (hF l.toArray 77 (0,0)):=cT w1 j _ _ _ _ D;have aF:(w1.setRow j l.toArray).drew.heap[g]?=cw (hF cur 77 (0,0)):=((c9 w1 j g _ oM).trans (x.block g a2)).trans B;have am:(i+1) * 2=i * 2+2:=oM
 have y:=uS (P:=cz) (w1.setRow j l.toArray).drew 41 41 3 77 H 2 cK N G j ((i+1) * 2) l.toArray M (n+1 - (i+1)) (C - (i+1)) ⟨g,i * 2,cx⟩ (n - i) (f - i) (xs.drop (i * 2))
  (by rw[J,show dy (n - i) (n+1 - (i+1))=n - i from cU oM]) (wY aF ag (i * 2)) (fun u av=>ay u (c0 av)) (by rw[J,cE,z.2.2,ae];omega)
 rw[cC] at y;rw[<-am] at z;obtain⟨r,U⟩:=nM (l.take ((i+1) * 2)++xs.drop (i * 2)++l.drop ((i+1) * 2+(xs.drop (i * 2)).length));rw[U] at y z;have aE:((w1.setRow j l.toArray).drew.setRow j r.toArray).heap[j]?=cw (hF r.toArray 77 (0,0)):=cT _ j _ _ _ _ M;have R:Hid (gW ((w1.setRow j l.toArray).drew.setRow j r.toArray) gM 77 2 (hA (cw ⟨j,0,cx⟩) (n+1) C) (n+1) (xs.take (i * 2)++ys++xs.drop (i * 2))/\w.grownBy ((w1.setRow j l.toArray).drew.setRow j r.toArray) (cw g)):=gF ⟨gW.mk' (by rw[iI,iI,cG,t,J,O];omega) oM aE ar af (by rw[cE,z.2.1,ae];omega) (by rw[cC,show(n+1) * 2=n * 2+2 by omega];exact z.1),by have ba:w.heap.size<=w1.heap.size:=x.size;refine⟨?_,?_,?_,?_,fun b aY _=>?_⟩;exact x.os;exact x.tape;exact x.output;rw[setRow_size];show w.heap.size<=(w1.setRow j l.toArray).heap.size;rw[setRow_size];exact ba;exact(c9 _ j b _ oM).trans ((c9 w1 j b _ oM).trans (x.block b aY))⟩
 have bd:((i:Int)==(n:Int))=false:=oN
 have bc: ¬((i:Int)=(n:Int)):=oM
 have br:(n:Int)+1 - (i:Int)=(Y:Int):=oM
 have aS:i<=n:=oM
 have bb:((i:Int)+1).toNat=i+1:=oM
 have aT:(0:Int)<=(i:Int)+1:=oM
 have aU: ¬(C=i+1):=oM
 have aV: ¬(C=i):=oM
 have bg: ¬(f=i):=oM
 have aW:(f:Int)<(n:Int)+1:=oM
 have bh:i<=n+1:=oM
 have bi:i+1<=n+1:=oM
 have aN:=gF ad;have bs:IntKind.i64.wrap ((i:Int)+1)=(i:Int)+1:=dM _ oM;rw[V] at I;have aP:=gF I;have ai:=gF y;have aj:=gF q;clear z ap ae aA T U D M aE aF W y q I aD aq aI h s aH au a7 ad V x aB ar af;go_enter eE,ey;have q:=aj.o;go_wp2_with (at_builtin;refine zf rfl _ _ 41 3 rfl _ _ rfl rfl aP.o ?_);refine qm #[cB,cB,cB,cB,cB,cB,cB,cB,cB] 9 oP oO rfl ?_;refine cv (i:=0) (v:=(hA (cw ⟨j,0,cx⟩) (n+1) C)) rfl oP oP oP (fun _ _ _ h=>h) (cF ⟨oO,fun w=>by first|rfl| (go_simp;try with_reducible rfl)⟩) ?_;simp only[cQ,cO,cy,gU];refine cv (i:=1) (v:=(gE ha i)) rfl oP oP oP (fun _ _ _ h=>h) (cF ⟨oO,fun w=>by first|rfl| (go_simp;try with_reducible rfl)⟩) ?_;simp only[ki,cy,gU];refine cv (i:=2) (v:=(gE ha 1)) rfl oP oP oP (fun _ _ _ h=>h) (cF ⟨oO,fun w=>by first|rfl| (go_simp;try with_reducible rfl)⟩) ?_;simp only[ki,cy,gU];refine cv (i:=3) (v:=(gE ha ((i:Int)+1))) rfl oP oP oP (fun _ _ _ h=>h) (cF ⟨oO,fun w=>by first|rfl| (go_simp;try with_reducible rfl)⟩) ?_;simp only[ki,cy,gU];refine cv (i:=4) (v:=(hA (cw ⟨j,(i+1) * 2,cx⟩) (n+1 - (i+1)) (C - (i+1)))) rfl oP oP oP (fun _ _ _ h=>h) (cF ⟨oO,fun w=>by first|rfl| (go_simp;try with_reducible rfl)⟩) ?_;simp only[ki,cy,gU];refine cv (i:=5) (v:=(hA (cw ⟨g,0,cx⟩) n f)) rfl oP oP oP (fun _ _ _ h=>h) (cF ⟨oO,fun w=>by first|rfl| (go_simp;try with_reducible rfl)⟩) ?_;simp only[ki,cy,gU];refine cv (i:=6) (v:=(gE ha i)) rfl oP oP oP (fun _ _ _ h=>h) (cF ⟨oO,fun w=>by first|rfl| (go_simp;try with_reducible rfl)⟩) ?_;simp only[ki,cy,gU];refine cv (i:=7) (v:=(hA (cw ⟨g,i * 2,cx⟩) (n - i) (f - i))) rfl oP oP oP (fun _ _ _ h=>h) (cF ⟨oO,fun w=>by first|rfl| (go_simp;try with_reducible rfl)⟩) ?_;simp only[ki,cy,gU];refine iG 8 fun K hK=>?_;refine l9 _ _ 41 41 rfl _ _ rfl rfl ai.o ?_;refine hK _ _ ?_;clear hK K q;simp only[cy,gU];refine kS ?_;go_wp2;go_ret;exact⟨_,rfl,R.o.1,R.o.2, .inr (by rw[aN.o];rfl)⟩
theorem gW.ia {w':cS} (h:gW w gM e k v n xs) (f:c4 w.heap.size w w'):gW w' gM e k v n xs:=h.same fun g e=>f.block g (h.lt g e).2
theorem J6 (w:cS) (m:Int) (n:Nat) (x:m=n) (E:n<=3000):
  dz cz 211 #[hA cx 0 0, gE ha m] w fun e w'=> ∃v,e= ht v/\w'.ownsRow w.heap.size 77 2 v 0 []/\c4 w.heap.size w w':=by
 subst x;obtain⟨z,j,r,p,f⟩:=info_parts sy;rcases eU n with rfl|y;.
  have B: ¬(0:Int)<((0:Nat):Int):=oM
  go_enter func211,ntmps211;go_wp2;go_ret;exact⟨_,rfl,dY _ _ _ _,cW _ _⟩
 have l:=Lib.run_append_nil_zeros (P:=cz) w 41 3 41 77 z _ .i64 .i64 cK dI j r n y (by rw[p];decide) oM (by rw[f];omega);have D:=dW w n 0 77;have h:=dm w n 0 77 (by unfold c7;omega);have q:(cD (dP #[.string .empty, .string .empty]).cells n++cD (dP #[.string .empty, .string .empty]).cells (dN w n 0 77 - n)).size=dN w n 0 77 * 2:=by rw[eb,cX,cX, <-ds];simp[dB];omega
 have F:(0:Int)<(n:Int):=oM
 generalize dN w n 0 77=c at *;have C:0<=c:=oM
 have t:=gF l;have u:=gF q;have s:=gF h;clear l q h j r p f;go_enter func211,ntmps211;go_wp2_with (refine Lib.wpList_append_run _ rfl (.tmp 20) (.tmp 21) 41 3 rfl (hA cx 0 0) (gE ha n) rfl rfl _ _ t.o ?_);go_ret;refine⟨_,rfl,⟨oC, .inr ⟨w.heap.size,c,_,rfl,cL _,dH w _,ek _,s.o,u.o,oC⟩⟩,?_⟩;exact(Below.one w _).drew
theorem qL {f:Nat} {j:Nat} (h:w.ownsRow gM e j v n xs) (r:f<=gM):w.ownsRow f e j v n xs:=by
 refine⟨h.1,?_⟩;rcases h.2 with q|⟨g,l,cur,p,s,t⟩;exact .inl q;exact .inr ⟨g,l,cur,p,jU r s,t⟩
theorem J7 (gM:Nat) (w:cS) (g:Nat) (aq ar:cN) (x:Bx w g #[aq,ar] 41) (h j:Nat) (p z:List cN) (M:gW w gM 77 2 aq h p) (N:gW w gM 77 2 ar j z) (ax: ∀u∈p,u.oneCell'=cM) (ay: ∀u∈z,u.oneCell'=cM) (aB:h<=1000) (lb:j<=1000):
  dz cz 206 #[hA (cw ⟨g,0,cx⟩) 2 2] w fun e w'=> ∃v,e= ht v/\w'.ownsRow w.heap.size 77 2 v (h+j) (p++z)/\c4 w.heap.size w w':=by
 have ab:=M;have ac:=N;obtain⟨F,C,rfl,aj,-⟩:=M.at;obtain⟨G,D,rfl,ak,-⟩:=N.at;obtain⟨ap,ag,ao,al,ae⟩:=info_parts sy;have l:=gF (gK ag (gK ao (gK al ae)));have X:=gF ab;have Y:=gF ac;have au:=gF aj.nil;have av:=gF ak.nil;have B:=gF x;clear M N ab ac x ag ao al ae aj ak;go_enter func206,ntmps206;go_wp2
 go_loopw [3,11] (fun W i wr=>((i= gE ha 0/\W= gE ha 0)\/(i= gE ha 1/\W= gE ha (h:Int))\/(i= gE ha 2/\W= gE ha ((h:Int)+(j:Int))))/\c4 w.heap.size w wr) (fun _ i _=>2 - (intOf i).toNat)
 case atStart=>exact⟨.inl ⟨rfl,rfl⟩,cW _ _⟩
 case round=>
  obtain⟨T,f⟩:=hrel;have q:=B.o.below f B.o.lt;have I:wr.cell? ⟨g,0,cx⟩=cw (hA F h C):=by rw[q.cell];rfl
  have J:wr.cell? ⟨g,1,cx⟩=cw (hA G j D):=by rw[q.cell];rfl
  rcases T with⟨rfl,rfl⟩|⟨rfl,rfl⟩|⟨rfl,rfl⟩;.
   have aw: ¬((h:Int)<0):=oM
   go_wp2;go_roundw;case rel=>exact⟨.inr (.inl ⟨rfl,rfl⟩),f⟩
   case measure=>simp[intOf]
  .
   have aw: ¬((h:Int)+(j:Int)<0):=oM
   go_wp2;go_roundw;case rel=>exact⟨.inr (.inr ⟨rfl,rfl⟩),f⟩
   case measure=>simp[intOf]
  have af:=J6 wr ((h:Int)+(j:Int)) (h+j) oM oM;have Z:=gF af;clear af I J q;go_wp2_with fail;refine Z.o.mono ?_;rintro e aD ⟨aC,rfl,ai,ad⟩;have az:=Below.then f ad f.size;have aa:=gF (qL ai f.size);clear ai f ad Z;go_wp2
  go_loopw [6,27] (fun u i wr=>(∃(m:Nat) (y:List cN),((i= gE ha 0/\m=0/\y=[])\/(i= gE ha 1/\m=h/\y=p)\/(i= gE ha 2/\m=h+j/\y=p++z))/\wr.ownsRow w.heap.size 77 2 u m y)/\c4 w.heap.size w wr) (fun _ i _=>2 - (intOf i).toNat)
  case atStart=>exact⟨⟨0,[], .inl ⟨rfl,rfl,rfl⟩,aa.o⟩,az⟩
  case round=>
   clear aa;obtain⟨⟨m,y,T,ah⟩,f⟩:=hrel;have q:=B.o.below f B.o.lt;have I:wr.cell? ⟨g,0,cx⟩=cw (hA F h C):=by rw[q.cell];rfl
   have J:wr.cell? ⟨g,1,cx⟩=cw (hA G j D):=by rw[q.cell];rfl
   have r:=gF ah;have am:=f.size;clear ah;rcases T with⟨rfl,rfl,rfl⟩|⟨rfl,rfl,rfl⟩|⟨rfl,rfl,rfl⟩;.
    obtain⟨V,c',s,-,t⟩:=(X.o.ia f).at;obtain⟨rfl,rfl⟩:F=V/\C=c':=by simpa using s
    have H:=gF t;have U:=gF X.o.1;clear t s;go_wp2_with (refine o8 rfl (.tmp 31) (.tmp 32) 41 rfl w.heap.size 77 ap _ 2 32 cK l.o.1 l.o.2.1 l.o.2.2.1 l.o.2.2.2 rfl oF _ _ _ rfl r.o F h C p rfl au.o U.o H.o ax (by simp[c7];omega) oM oM ?_;intro aA w3 E R);have O:c4 w.heap.size w w3:=f.grown R am fun k e=>(r.o.lt k e).1;rw[dd,dt] at E;go_roundw;case rel=>exact⟨⟨h,p, .inr (.inl ⟨rfl,rfl,rfl⟩),E⟩,O⟩
    case measure=>simp[intOf]
   .
    obtain⟨V,c',s,-,t⟩:=(Y.o.ia f).at;obtain⟨rfl,rfl⟩:G=V/\D=c':=by simpa using s
    have H:=gF t;have U:=gF Y.o.1;clear t s;go_wp2_with (refine o8 rfl (.tmp 31) (.tmp 32) 41 rfl w.heap.size 77 ap _ 2 32 cK l.o.1 l.o.2.1 l.o.2.2.1 l.o.2.2.2 rfl oF _ _ _ rfl r.o G j D z rfl av.o U.o H.o ay (by simp[c7];omega) oM oM ?_;intro aA w3 E R);have O:c4 w.heap.size w w3:=f.grown R am fun k e=>(r.o.lt k e).1;go_roundw;case rel=>exact⟨⟨_,_, .inr (.inr ⟨rfl,rfl,rfl⟩),E⟩,O⟩
    case measure=>simp[intOf]
   clear I J q;go_wp2;go_ret;exact⟨_,rfl,r.o,f⟩
theorem Bi (w:cS) (a:Addr) (m c:Nat) (ys:List cN) (r:ys.length=m * 2) (h:gO S w (cw a) ys) (j: ∀u∈ys,u.oneCell'=cM) (B:m<=1000):
  dz cz 162 #[hA (cw a) m c] w fun e w'=> ∃v,e= ht v/\w'.ownsRow w.heap.size 77 2 v m ys/\c4 w.heap.size w w':=by
 obtain⟨y,p,s,t,x⟩:=info_parts sy;have z:=fun(w:cS) (a:Option Addr) (n c:Nat)=>Lib.run_eql_slice_nil (P:=cz) w 41 77 a n c 0 0 cK;go_enter func162,ntmps162;go_wp2_with (at_builtin;refine o8 rfl _ _ 41 rfl w.heap.size 77 y _ 2 32 cK p s t x rfl oF _ 0 [] rfl (eK w #[] 0 (cL _) (by simp[c7]) rfl) _ m c ys rfl (by intro e;cases e) r (h.below ((cW _ _).alloc (cL _) _)) j (by unfold c7;omega) oM oC ?_;intro C D f l);go_ret;simp only[dd,dt] at f;exact⟨_,rfl,f,((cW _ _).alloc (cL _) _).grown l oC (by intro k q;cases q;exact cL _)⟩
theorem J8 (w:cS) (m:Int) (n:Nat) (x:m=n) (E:n<=3000):
  dz cz 212 #[hA cx 0 0, gE ha m] w fun e w'=> ∃v,e= ht v/\w'.ownsRow w.heap.size 88 1 v 0 []/\c4 w.heap.size w w':=by
 subst x;obtain⟨z,j,r,p,f⟩:=info_parts wU;rcases eU n with rfl|y;.
  have B: ¬(0:Int)<((0:Nat):Int):=oM
  go_enter func212,ntmps212;go_wp2;go_ret;exact⟨_,rfl,dY _ _ _ _,cW _ _⟩
 have l:=Lib.run_append_nil_zeros (P:=cz) w 127 3 127 88 z _ .i64 .i64 cH dI j r n y (by rw[p];decide) oM (by rw[f];omega);have D:=dW w n 0 88;have h:=dm w n 0 88 (by unfold c7;omega);have q:(cD (dq cx).cells n++cD (dq cx).cells (dN w n 0 88 - n)).size=dN w n 0 88 * 1:=by rw[eb,cX,cX, <-ds];simp[dB];omega
 have F:(0:Int)<(n:Int):=oM
 generalize dN w n 0 88=c at *;have C:0<=c:=oM
 have t:=gF l;have u:=gF q;have s:=gF h;clear l q h j r p f;go_enter func212,ntmps212;go_wp2_with (refine Lib.wpList_append_run _ rfl (.tmp 20) (.tmp 21) 127 3 rfl (hA cx 0 0) (gE ha n) rfl rfl _ _ t.o ?_);go_ret;refine⟨_,rfl,⟨oC, .inr ⟨w.heap.size,c,_,rfl,cL _,dH w _,ek _,s.o,u.o,oC⟩⟩,?_⟩;exact(Below.one w _).drew
theorem J9 (gM:Nat) (w:cS) (g:Nat) (aq ar:cN) (x:Bx w g #[aq,ar] 127) (h j:Nat) (p z:List cN) (M:gW w gM 88 1 aq h p) (N:gW w gM 88 1 ar j z) (ax: ∀u∈p,u.oneCell'=cM) (ay: ∀u∈z,u.oneCell'=cM) (aB:h<=1000) (lb:j<=1000):
  dz cz 207 #[hA (cw ⟨g,0,cx⟩) 2 2] w fun e w'=> ∃v,e= ht v/\w'.ownsRow w.heap.size 88 1 v (h+j) (p++z)/\c4 w.heap.size w w':=by
 have ab:=M;have ac:=N;obtain⟨F,C,rfl,aj,-⟩:=M.at;obtain⟨G,D,rfl,ak,-⟩:=N.at;obtain⟨ap,ag,ao,al,ae⟩:=info_parts wU;have l:=gF (gK ag (gK ao (gK al ae)));have X:=gF ab;have Y:=gF ac;have au:=gF aj.nil;have av:=gF ak.nil;have B:=gF x;clear M N ab ac x ag ao al ae aj ak;go_enter func207,ntmps207;go_wp2
 go_loopw [3,11] (fun W i wr=>((i= gE ha 0/\W= gE ha 0)\/(i= gE ha 1/\W= gE ha (h:Int))\/(i= gE ha 2/\W= gE ha ((h:Int)+(j:Int))))/\c4 w.heap.size w wr) (fun _ i _=>2 - (intOf i).toNat)
 case atStart=>exact⟨.inl ⟨rfl,rfl⟩,cW _ _⟩
 case round=>
  obtain⟨T,f⟩:=hrel;have q:=B.o.below f B.o.lt;have I:wr.cell? ⟨g,0,cx⟩=cw (hA F h C):=by rw[q.cell];rfl
  have J:wr.cell? ⟨g,1,cx⟩=cw (hA G j D):=by rw[q.cell];rfl
  rcases T with⟨rfl,rfl⟩|⟨rfl,rfl⟩|⟨rfl,rfl⟩;.
   have aw: ¬((h:Int)<0):=oM
   go_wp2;go_roundw;case rel=>exact⟨.inr (.inl ⟨rfl,rfl⟩),f⟩
   case measure=>simp[intOf]
  .
   have aw: ¬((h:Int)+(j:Int)<0):=oM
   go_wp2;go_roundw;case rel=>exact⟨.inr (.inr ⟨rfl,rfl⟩),f⟩
   case measure=>simp[intOf]
  have af:=J8 wr ((h:Int)+(j:Int)) (h+j) oM oM;have Z:=gF af;clear af I J q;go_wp2_with fail;refine Z.o.mono ?_;rintro e aD ⟨aC,rfl,ai,ad⟩;have az:=Below.then f ad f.size;have aa:=gF (qL ai f.size);clear ai f ad Z;go_wp2
  go_loopw [6,27] (fun u i wr=>(∃(m:Nat) (y:List cN),((i= gE ha 0/\m=0/\y=[])\/(i= gE ha 1/\m=h/\y=p)\/(i= gE ha 2/\m=h+j/\y=p++z))/\wr.ownsRow w.heap.size 88 1 u m y)/\c4 w.heap.size w wr) (fun _ i _=>2 - (intOf i).toNat)
  case atStart=>exact⟨⟨0,[], .inl ⟨rfl,rfl,rfl⟩,aa.o⟩,az⟩
  case round=>
   clear aa;obtain⟨⟨m,y,T,ah⟩,f⟩:=hrel;have q:=B.o.below f B.o.lt;have I:wr.cell? ⟨g,0,cx⟩=cw (hA F h C):=by rw[q.cell];rfl
   have J:wr.cell? ⟨g,1,cx⟩=cw (hA G j D):=by rw[q.cell];rfl
   have r:=gF ah;have am:=f.size;clear ah;rcases T with⟨rfl,rfl,rfl⟩|⟨rfl,rfl,rfl⟩|⟨rfl,rfl,rfl⟩;.
    obtain⟨V,c',s,-,t⟩:=(X.o.ia f).at;obtain⟨rfl,rfl⟩:F=V/\C=c':=by simpa using s
    have H:=gF t;have U:=gF X.o.1;clear t s;go_wp2_with (refine o8 rfl (.tmp 31) (.tmp 32) 127 rfl w.heap.size 88 ap _ 1 8 cH l.o.1 l.o.2.1 l.o.2.2.1 l.o.2.2.2 rfl oF _ _ _ rfl r.o F h C p rfl au.o U.o H.o ax (by simp[c7];omega) oM oM ?_;intro aA w3 E R);have O:c4 w.heap.size w w3:=f.grown R am fun k e=>(r.o.lt k e).1;rw[dd,dt] at E;go_roundw;case rel=>exact⟨⟨h,p, .inr (.inl ⟨rfl,rfl,rfl⟩),E⟩,O⟩
    case measure=>simp[intOf]
   .
    obtain⟨V,c',s,-,t⟩:=(Y.o.ia f).at;obtain⟨rfl,rfl⟩:G=V/\D=c':=by simpa using s
    have H:=gF t;have U:=gF Y.o.1;clear t s;go_wp2_with (refine o8 rfl (.tmp 31) (.tmp 32) 127 rfl w.heap.size 88 ap _ 1 8 cH l.o.1 l.o.2.1 l.o.2.2.1 l.o.2.2.2 rfl oF _ _ _ rfl r.o G j D z rfl av.o U.o H.o ay (by simp[c7];omega) oM oM ?_;intro aA w3 E R);have O:c4 w.heap.size w w3:=f.grown R am fun k e=>(r.o.lt k e).1;go_roundw;case rel=>exact⟨⟨_,_, .inr (.inr ⟨rfl,rfl,rfl⟩),E⟩,O⟩
    case measure=>simp[intOf]
   clear I J q;go_wp2;go_ret;exact⟨_,rfl,r.o,f⟩
theorem Bj (w:cS) (a:Addr) (m c:Nat) (ys:List cN) (r:ys.length=m * 1) (h:gO S w (cw a) ys) (j: ∀u∈ys,u.oneCell'=cM) (B:m<=1000):
  dz cz 164 #[hA (cw a) m c] w fun e w'=> ∃v,e= ht v/\w'.ownsRow w.heap.size 88 1 v m ys/\c4 w.heap.size w w':=by
 obtain⟨y,p,s,t,x⟩:=info_parts wU;have z:=fun(w:cS) (a:Option Addr) (n c:Nat)=>Lib.run_eql_slice_nil (P:=cz) w 127 88 a n c 0 0 cH;go_enter func164,ntmps164;go_wp2_with (at_builtin;refine o8 rfl _ _ 127 rfl w.heap.size 88 y _ 1 8 cH p s t x rfl oF _ 0 [] rfl (eK w #[] 0 (cL _) (by simp[c7]) rfl) _ m c ys rfl (by intro e;cases e) r (h.below ((cW _ _).alloc (cL _) _)) j (by unfold c7;omega) oM oC ?_;intro C D f l);go_ret;simp only[dd,dt] at f;exact⟨_,rfl,f,((cW _ _).alloc (cL _) _).grown l oC (by intro k q;cases q;exact cL _)⟩
theorem Ka (gM:Nat) (v:cN) (n:Nat) (xs:List cN) (w:cS) (h:gW w gM 88 1 v n xs) (i:Nat) (aG:i<=n) (p:Nat) (ys:List cN) (t:ys.length=1) (s:Bx w p ys.toArray 88) (a5:v.ownBlock≠cw p)
  (ax: ∀u∈xs,u.oneCell'=cM) (am: ∀u∈ys,u.oneCell'=cM) (bo:n<=1000) (aZ:gM<=w.heap.size):
  dz cz 163 #[v, gE ha i, hA (cw ⟨p,0,cx⟩) 1 1] w fun e w'=> ∃v',e= ht v'/\gW w' gM 88 1 v' (n+1) (xs.take (i)++ys++xs.drop i)/\w.grownBy w' v.ownBlock/\(v'.ownBlock=v.ownBlock\/v'.ownBlock=cw w.heap.size):=by
 obtain⟨G,N,ah,F,Y⟩:=info_parts wU
 by_cases ar:i=n
 .
  subst ar;obtain⟨o,c,rfl,a9,-⟩:=h.at;have a0:i<=c:=by rcases a9 with⟨_,h,_⟩|⟨_,_,h,_⟩<;>omega
  have E:=h.1;obtain⟨v',w',aJ,ac,ad,ay⟩:=Eu (P:=cz) w gM 127 127 88 G _ 1 8 cH N ah F Y rfl oF _ i xs h ⟨p,0,cx⟩ 1 1 ys (by rw[t]) (ua s) am oM oF aZ;have aR:=gF aJ;have ak:=gF (gK ac (gK ad ay));clear aJ ac ad ay h
  by_cases a1:c=i
  focus subst a1
  rotate_left;focus have bk:i<=c:=a0
  all_goals go_enter eD,ew;go_wp2_with (at_builtin;refine zf rfl _ _ 127 127 rfl _ _ rfl rfl aR.o ?_);go_ret;rw[dj oM,eF oM,List.append_nil];exact⟨v',rfl,ak.o.1,ak.o.2.1,ak.o.2.2⟩
 have bl:i<n:=oM
 rcases h.2 with⟨rfl,bi⟩|⟨g,f,cur,rfl,aX,z,bp,aB,aK,V⟩;omega;have E:=h.1;rw[cR] at V aK E;have bn:f<=9223372036854775807:=by unfold c7 at aB;omega
 have aH:((i:Int)+1)=((i+1:Nat):Int):=oM
 have I:(xs.drop i).length=(n - i):=by rw[cJ,E]
 have ap:=fun av u D=>wY (xs:=xs) (k:=1) (n:=n) z (by rw[cR];exact V) i av u D
 by_cases a8:n+1<=f
 .
  have bb: ¬((i:Int)=(n:Int)):=oM
  have bc:((i:Int)==(n:Int))=false:=oN
  have W:IntKind.i64.wrap ((i:Int)+1)=(i:Int)+1:=dM _ oM;have aT:(0:Int)<=(i:Int)+1:=oM
  have aS:i<=n:=oM
  have ba:((i:Int)+1).toNat=i+1:=oM
  have aU: ¬(f=i+1):=oM
  have bd:(i:Int)<=(n:Int)+1:=oM
  have aV: ¬(f=i):=oM
  have aW: ¬((f:Int)<(n:Int)+1):=oM
  have be:(n:Int)+1<=(f:Int):=oM
  have aL:w.shape? p=cw (88,ys.toArray.size):=by unfold Bx at s;simp[dX,s]
  have aM:w.shape? g=cw (88,cur.size):=by simp[dX,z]
  have aF:p≠g:=fun e=>a5 (by rw[e];rfl);have a6: ∀aw al,(callFunc 190 #[hA (cw ⟨p,0,cx⟩) 1 1, hA (cw ⟨g,(i+1),cx⟩) aw al]).run cz w= .ok (.value (.bool cB)) w:=fun aw al=>by
   rw[run_callFunc_extern func190 oP oP oP (e:=dF #[127,127] #[4]) oP,
    Lib.run_overlaps_apart w 127 4 88 cH 1 sizeOf88 ⟨p,0,cx⟩ ⟨g,(i+1),cx⟩ 1 1 aw al aF _ _ _ _ aL aM oM (s.free 0) (s.free _)]
   rfl
  have aQ:=gF ap;have ab:=gF (gK N (gK ah (gK F Y)));have aO:=gF (gK h s);clear ap N ah F Y aH aL aM s h aG ar;go_enter eD,ew;go_wp2_with (simp only[a6]);have O:=Ew (C:=cur.toList) (xs:=xs) (ys:=ys) (a:=i) (m:=n) (k:=1) V (by rw[cA];omega) oM t E;have y:=uS (P:=cz) w.drew 127 127 3 88 G 1 cH ab.o.1 ab.o.2.2.1 g ((i+1)) cur z (n+1 - (i+1)) (f - (i+1)) ⟨g,i,cx⟩ (n+1 - i) (f - i) (xs.drop i)
   (by rw[cR,I,show dy (n+1 - i) (n+1 - (i+1))=n - i from (Nat.min_eq_right oM).trans oM]) aQ.o (fun u au=>ax u (c0 au)) (by rw[I];omega)
  obtain⟨l,T⟩:=nM (cur.toList.take ((i+1))++xs.drop (i)++cur.toList.drop ((i+1)+(xs.drop i).length));rw[T] at y O;have B:(w.drew.setRow g l.toArray).heap[g]?=cw (.cells l.toArray 88 (0,0)):=cT w.drew g cur _ _ _ z;have X:Bx (w.drew.setRow g l.toArray) p ys.toArray 88:=(c9 w.drew g p _ aF).trans aO.o.2;have q:=uS (P:=cz) (w.drew.setRow g l.toArray) 127 127 3 88 G 1 cH ab.o.1 ab.o.2.2.1 g i l.toArray B (n+1 - i) (f - i) ⟨p,0,cx⟩ 1 1 ys
   (by rw[cR,t,show dy 1 (n+1 - i)=1 from cU oM]) (ua X) am (by rw[t,cE,O.2.2,cA];omega)
  rw[cC] at q;obtain⟨r,U⟩:=nM (l.take (i)++ys++l.drop (i+ys.length));rw[U] at q O;have M:((w.drew.setRow g l.toArray).setRow g r.toArray).heap[g]?=cw (hF r.toArray 88 (0,0)):=cT _ g _ _ _ _ B;have R:Hid (gW ((w.drew.setRow g l.toArray).setRow g r.toArray) gM 88 1 (hA (cw ⟨g,0,cx⟩) (n+1) f) (n+1) (xs.take (i)++ys++xs.drop i)/\w.grownBy ((w.drew.setRow g l.toArray).setRow g r.toArray) (cw g)):=gF ⟨gW.mk' (by rw[iI,iI,cG,t,I,E];omega) aX M a8 aB (by rw[cE,O.2.1,cA];rw[cR];exact aK) (by rw[cC,show(n+1) * 1=n+1 by omega];exact O.1),
   ((⟨rfl,rfl,rfl,cL _,fun _ _ _=>rfl⟩:w.grownBy w.drew (cw g)).trans (tZ _ g _)).trans (tZ _ g _)⟩
  have ai:=gF y;have aj:=gF q;clear O T U B X M y q;refine qm #[cB,cB,cB,cB,cB,cB,cB,cB,cB] 9 oP oO rfl ?_;refine cv (i:=0) (v:=(hA (cw ⟨g,0,cx⟩) (n+1) f)) rfl oP oP oP (fun _ _ _ h=>h) (cF ⟨oO,fun w=>by first|rfl| (go_simp;try with_reducible rfl)⟩) ?_;simp only[cQ,cO,cy,gU];refine cv (i:=1) (v:=(gE ha i)) rfl oP oP oP (fun _ _ _ h=>h) (cF ⟨oO,fun w=>by first|rfl| (go_simp;try with_reducible rfl)⟩) ?_;simp only[ki,cy,gU];refine cv (i:=2) (v:=(gE ha 1)) rfl oP oP oP (fun _ _ _ h=>h) (cF ⟨oO,fun w=>by first|rfl| (go_simp;try with_reducible rfl)⟩) ?_;simp only[ki,cy,gU];refine cv (i:=3) (v:=(gE ha ((i:Int)+1))) rfl oP oP oP (fun _ _ _ h=>h) (cF ⟨oO,fun w=>by first|rfl| (go_simp;try with_reducible rfl)⟩) ?_;simp only[ki,cy,gU];refine cv (i:=4) (v:=(hA (cw ⟨g,(i+1),cx⟩) (n+1 - (i+1)) (f - (i+1)))) rfl oP oP oP (fun _ _ _ h=>h) (cF ⟨oO,fun w=>by first|rfl| (go_simp;try with_reducible rfl)⟩) ?_;simp only[ki,cy,gU];refine cv (i:=5) (v:=(hA (cw ⟨g,0,cx⟩) (n+1) f)) rfl oP oP oP (fun _ _ _ h=>h) (cF ⟨oO,fun w=>by first|rfl| (go_simp;try with_reducible rfl)⟩) ?_;simp only[ki,cy,gU];refine cv (i:=6) (v:=(gE ha i)) rfl oP oP oP (fun _ _ _ h=>h) (cF ⟨oO,fun w=>by first|rfl| (go_simp;try with_reducible rfl)⟩) ?_;simp only[ki,cy,gU];refine cv (i:=7) (v:=(hA (cw ⟨g,i,cx⟩) (n+1 - i) (f - i))) rfl oP oP oP (fun _ _ _ h=>h) (cF ⟨oO,fun w=>by first|rfl| (go_simp;try with_reducible rfl)⟩) ?_;simp only[ki,cy,gU];refine iG 8 fun K hK=>?_;refine l9 _ _ 127 127 rfl _ _ rfl rfl ai.o ?_;refine hK _ _ ?_;clear hK K;simp only[cy,gU];refine kS ?_;have q:=aj.o;go_wp2;go_ret;exact⟨_,rfl,R.o.1,R.o.2, .inl rfl⟩
 obtain⟨aa,a7⟩:=nM (n+1 - i);obtain⟨j,ae⟩:=nM w.heap.size;have a2:g<w.heap.size:=(cZ.1 z).1;have aI:(xs.take i).length=i:=by rw[cG];omega
 have aC:=ec (P:=cz) w.drew G.size i ⟨g,0,cx⟩ i f (xs.take i) (by rw[F,cR];exact aI) (fun av u D=>by
  have bm:=(cI.1 D).1;rw[dL,dd];have ac:xs[av]?=cw u:=by rw[eS] at D;split at D;exact D;cases D
  obtain⟨a3,a4⟩:=cI.1 ac;have ad:=vM V a3;show w.cell? _=_;simp[ef,z];rw[<-dp,ad,a4])
 have H:=Lib.run_append_grow_zeros (P:=cz) w 127 3 127 88 G _ .i64 .i64 cH dI N ah (cw ⟨g,0,cx⟩) i f (xs.take i) aC aa oM (by rw[F];decide) oM oM (by rw[Y];omega) (by rw[Y];exact eG oM oM);rw[show i+aa=n+1 by omega] at H;have aq:=dW w (n+1) f 88;have ag:=dm w (n+1) f 88 (by unfold c7;omega);obtain⟨C,aA⟩:=nM (dN w (n+1) f 88);rw[aA] at H aq ag;have bj:C<=9223372036854775807:=by unfold c7 at ag;omega
 obtain⟨Z,ao⟩: ∃Z:List cN,(cD (dq cx).cells aa).toList++(cD (dq cx).cells (C - (n+1))).toList=Z:=⟨_,rfl⟩;have af:Z.length=C - i:=by rw[<-ao,iI,cA,cA,cX,cX];simp[dB];omega
 have az:(xs.take i).toArray++cD (dq cx).cells aa++cD (dq cx).cells (C - (n+1))=(xs.take (i)++Z).toArray:=by apply Array.ext';rw[<-ao];simp
 rw[az,ae] at H;have J:=Ex (xs:=xs) (Z:=Z) (ys:=ys) (a:=i) (m:=n) (k:=1) oM oM t E;obtain⟨w1,W⟩:=nM (w.drew.alloc (hF (xs.take (i)++Z).toArray 88));have x:c4 w.heap.size w w1:=by rw[<-W];exact((cW _ w).drew).alloc (cL _) _
 have B:w1.heap[j]?=cw (hF (xs.take (i)++Z).toArray 88 (0,0)):=by rw[<-W, <-ae];exact dH w.drew _
 have X:Bx w1 p ys.toArray 88:=s.gD x;have q:=uS (P:=cz) w1 127 127 3 88 G 1 cH N F j i _ B (n+1 - i) (C - i) ⟨p,0,cx⟩ 1 1 ys
  (by rw[cR,t,show dy 1 (n+1 - i)=1 from cU oM]) (ua X) am (by rw[t,cE,iI,aI,af];omega)
 rw[cC] at q;obtain⟨l,T⟩:=nM ((xs.take (i)++Z).take (i)++ys++(xs.take (i)++Z).drop (i+ys.length));rw[T] at q J;have M:(w1.setRow j l.toArray).drew.heap[j]?=cw (.cells l.toArray 88 (0,0)):=cT w1 j _ _ _ _ B;have aE:(w1.setRow j l.toArray).drew.heap[g]?=cw (.cells cur 88 (0,0)):=((c9 w1 j g _ oM).trans (x.block g a2)).trans z;have y:=uS (P:=cz) (w1.setRow j l.toArray).drew 127 127 3 88 G 1 cH N F j ((i+1)) l.toArray M (n+1 - (i+1)) (C - (i+1)) ⟨g,i,cx⟩ (n - i) (f - i) (xs.drop i)
  (by rw[cR,I,show dy (n - i) (n+1 - (i+1))=n - i from cU oM]) (wY (xs:=xs) (k:=1) (n:=n) aE (by rw[cR];exact V) i) (fun u au=>ax u (c0 au)) (by rw[I,cE,J.2.2,af];omega)
 rw[cC] at y;obtain⟨r,U⟩:=nM (l.take ((i+1))++xs.drop (i)++l.drop ((i+1)+(xs.drop i).length));rw[U] at y J;have aD:((w1.setRow j l.toArray).drew.setRow j r.toArray).heap[j]?=cw (hF r.toArray 88 (0,0)):=cT _ j _ _ _ _ M;have R:Hid (gW ((w1.setRow j l.toArray).drew.setRow j r.toArray) gM 88 1 (hA (cw ⟨j,0,cx⟩) (n+1) C) (n+1) (xs.take (i)++ys++xs.drop i)/\w.grownBy ((w1.setRow j l.toArray).drew.setRow j r.toArray) (cw g)):=gF ⟨gW.mk' (by rw[iI,iI,cG,t,I,E];omega) oM aD aq ag (by rw[cE,J.2.1,af];omega) (by rw[cC,show(n+1) * 1=n+1 by omega];exact J.1),by have a':w.heap.size<=w1.heap.size:=x.size;refine⟨?_,?_,?_,?_,fun b aY _=>?_⟩;exact x.os;exact x.tape;exact x.output;rw[setRow_size];show w.heap.size<=(w1.setRow j l.toArray).heap.size;rw[setRow_size];exact a';exact(c9 _ j b _ oM).trans ((c9 w1 j b _ oM).trans (x.block b aY))⟩
 have bc:((i:Int)==(n:Int))=false:=oN
 have bb: ¬((i:Int)=(n:Int)):=oM
 have bq:(n:Int)+1 - (i:Int)=(aa:Int):=oM
 have aS:i<=n:=oM
 have ba:((i:Int)+1).toNat=i+1:=oM
 have aT:(0:Int)<=(i:Int)+1:=oM
 have aU: ¬(C=i+1):=oM
 have aV: ¬(C=i):=oM
 have bf: ¬(f=i):=oM
 have aW:(f:Int)<(n:Int)+1:=oM
 have bg:i<=n+1:=oM
 have bh:i+1<=n+1:=oM
 have aN:=gF ae;have br:IntKind.i64.wrap ((i:Int)+1)=(i:Int)+1:=dM _ oM;rw[W] at H;have aP:=gF H;have ai:=gF y;have aj:=gF q;clear J ao af az T U B M aD aE X y q H aC ap aH h s aG ar a7 ae W x aA aq ag;go_enter eD,ew;have q:=aj.o;go_wp2_with (at_builtin;refine zf rfl _ _ 127 3 rfl _ _ rfl rfl aP.o ?_);refine qm #[cB,cB,cB,cB,cB,cB,cB,cB,cB] 9 oP oO rfl ?_;refine cv (i:=0) (v:=(hA (cw ⟨j,0,cx⟩) (n+1) C)) rfl oP oP oP (fun _ _ _ h=>h) (cF ⟨oO,fun w=>by first|rfl| (go_simp;try with_reducible rfl)⟩) ?_;simp only[cQ,cO,cy,gU];refine cv (i:=1) (v:=(gE ha i)) rfl oP oP oP (fun _ _ _ h=>h) (cF ⟨oO,fun w=>by first|rfl| (go_simp;try with_reducible rfl)⟩) ?_;simp only[ki,cy,gU];refine cv (i:=2) (v:=(gE ha 1)) rfl oP oP oP (fun _ _ _ h=>h) (cF ⟨oO,fun w=>by first|rfl| (go_simp;try with_reducible rfl)⟩) ?_;simp only[ki,cy,gU];refine cv (i:=3) (v:=(gE ha ((i:Int)+1))) rfl oP oP oP (fun _ _ _ h=>h) (cF ⟨oO,fun w=>by first|rfl| (go_simp;try with_reducible rfl)⟩) ?_;simp only[ki,cy,gU];refine cv (i:=4) (v:=(hA (cw ⟨j,(i+1),cx⟩) (n+1 - (i+1)) (C - (i+1)))) rfl oP oP oP (fun _ _ _ h=>h) (cF ⟨oO,fun w=>by first|rfl| (go_simp;try with_reducible rfl)⟩) ?_;simp only[ki,cy,gU];refine cv (i:=5) (v:=(hA (cw ⟨g,0,cx⟩) n f)) rfl oP oP oP (fun _ _ _ h=>h) (cF ⟨oO,fun w=>by first|rfl| (go_simp;try with_reducible rfl)⟩) ?_;simp only[ki,cy,gU];refine cv (i:=6) (v:=(gE ha i)) rfl oP oP oP (fun _ _ _ h=>h) (cF ⟨oO,fun w=>by first|rfl| (go_simp;try with_reducible rfl)⟩) ?_;simp only[ki,cy,gU];refine cv (i:=7) (v:=(hA (cw ⟨g,i,cx⟩) (n - i) (f - i))) rfl oP oP oP (fun _ _ _ h=>h) (cF ⟨oO,fun w=>by first|rfl| (go_simp;try with_reducible rfl)⟩) ?_;simp only[ki,cy,gU];refine iG 8 fun K hK=>?_;refine l9 _ _ 127 127 rfl _ _ rfl rfl ai.o ?_;refine hK _ _ ?_;clear hK K q;simp only[cy,gU];refine kS ?_;go_wp2;go_ret;exact⟨_,rfl,R.o.1,R.o.2, .inr (by rw[aN.o];rfl)⟩
theorem Ey {α:Type} {C xs zs:List α} {a p:Nat} (u:C.take (p+k)=xs) (E:p+k<=C.length) (B:a<=p) (y:xs.length=p+k) (z:zs.length=k):
  let D:=C.take a++xs.drop (a+k)++C.drop (a+(xs.drop (a+k)).length)
  let f:=D.take p++zs++D.drop (p+k)
  f.take p=xs.take a++xs.drop (a+k)/\f.length=C.length/\D.length=C.length:=by
 have j:(xs.drop (a+k)).length=p - a:=by rw[cJ,y];omega
 have r:(C.take a).length=a:=by rw[cG];omega
 obtain⟨R,q⟩:=nM (C.drop (a+(xs.drop (a+k)).length));have x:R.length=C.length - (a+(p - a)):=by rw[<-q,cJ,j]
 intro D f;have l:D=C.take a++xs.drop (a+k)++R:=by rw[<-q]
 have h:D.length=C.length:=by rw[l,iI,iI,r,j,x];omega
 have s:D.take p=C.take a++xs.drop (a+k):=by rw[l];exact df (by rw[iI,r,j];omega)
 have t:C.take a=xs.take a:=by rw[<-u,dA,cU oM]
 refine⟨?_,?_,h⟩;show(D.take p++zs++D.drop (p+k)).take p=_;rw[dE,dr (by rw[cG,h];omega),dA,Nat.min_self,s,t];show(D.take p++zs++D.drop (p+k)).length=_;rw[iI,iI,cG,cJ,z,h];omega
theorem Kb (gM:Nat) (v:cN) (p:Nat) (xs:List cN) (w:cS) (h:gW w gM 77 2 v (p+1) xs) (i:Nat) (aF:i<=p) (ac: ∀u∈xs,u.oneCell'=cM) (aH:p<=1000):
  dz cz 165 #[v, gE ha i, gE ha ((i:Int)+1)] w fun e w'=> ∃v',e= ht v'/\gW w' gM 77 2 v' p (xs.take (i * 2)++xs.drop ((i+1) * 2))/\w.grownBy w' v.ownBlock/\v'.ownBlock=v.ownBlock:=by
 obtain⟨al,af,aJ,F,aK⟩:=info_parts sy;rcases h.2 with⟨rfl,aD⟩|⟨g,cap,cur,rfl,ad,B,O,M,R,U⟩;omega;have E:=h.1;have aG:cap<=9223372036854775807:=by unfold c7 at M;omega
 have aE:(p+1) * 2<=cur.size:=jU (dc _ O) R;have aa:(i+1) * 2=i * 2+2:=oM
 have ab:(p+1) * 2=p * 2+2:=oM
 have r:(xs.drop ((i+1) * 2)).length=(p - i) * 2:=by rw[cJ,E];omega
 have V: ∀w,(zeroValue 77).run cz w= .ok (.agg #[.string .empty, .string .empty]) w:=fun w=>oP
 have T:=wY (w:=w.drew) B U ((i+1) * 2);have t:=fun(W:Addr) (am:Nat) (ah: ∀j u,(xs.drop ((i+1) * 2))[j]?=cw u->w.drew.cell? (W.add j)=cw u)=>ez (P:=cz) w.drew 41 41 77 al cK af g i cap cur B W (p - i) am (xs.drop ((i+1) * 2)) (by rw[F];exact r) ah (fun u y=>ac u (c0 y)) oM (by rw[F,r];omega);rw[F] at t;obtain⟨f,z⟩:=nM (cur.toList.take (i * 2)++xs.drop ((i+1) * 2)++cur.toList.drop (i * 2+(xs.drop ((i+1) * 2)).length));rw[z,show i+(p - i)=p by omega] at t;have q:=fun zs aj=>Ey (C:=cur.toList) (xs:=xs) (zs:=zs) (a:=i * 2) (k:=2) (p:=p * 2) (by rw[<-ab];exact U) (by rw[cA];omega) oM (by rw[E];omega) aj;rw[<-aa] at q;simp only[z] at q;have I:f.length=cur.size:=by rw[<-cA];exact(q [.nilFunc, .nilFunc] rfl).2.2
 have D:(w.drew.setRow g f.toArray).heap[g]?=cw (.cells f.toArray 77 (0,0)):=cT w.drew g cur _ _ _ B;obtain⟨zs,ak,l⟩:=Ev (P:=cz) (w.drew.setRow g f.toArray) 41 77 0 _ 2 cK V rfl (by intro u y;simp[dB] at y;subst y;rfl) g (p * 2) 1 (cap - p) oF f.toArray D (by rw[cE,I];omega);have x:=q zs (by rw[ak]);rw[cC,show p * 2+1 * 2=p * 2+2 by omega] at l;obtain⟨s,J⟩:=nM (f.take (p * 2)++zs++f.drop (p * 2+2));rw[J] at l x;have N:((w.drew.setRow g f.toArray).setRow g s.toArray).heap[g]?=cw (.cells s.toArray 77 (0,0)):=cT _ g _ _ _ _ D;have G:Hid (gW ((w.drew.setRow g f.toArray).setRow g s.toArray) gM 77 2 (.slice (cw ⟨g,0,cx⟩) p cap) p (xs.take (i * 2)++xs.drop ((i+1) * 2))/\w.grownBy ((w.drew.setRow g f.toArray).setRow g s.toArray) (cw g)):=gF ⟨gW.mk' (by rw[iI,cG,r,E];omega) ad N oM M (by rw[cE,x.2.1,cA];exact R) (by rw[cC];exact x.1),
  ((⟨rfl,rfl,rfl,cL _,fun _ _ _=>rfl⟩:w.grownBy w.drew (cw g)).trans (tZ _ g _)).trans (tZ _ g _)⟩
 have X:=gF l;have H:=gF t;have Z:=gF T;have Y:=gF r;have aM:((i:Int)==(i:Int)+1)=false:=oN
 have aN: ¬((i:Int)=(i:Int)+1):=oM
 have ao:i<=p+1:=oM
 have ap:(i:Int)<=(i:Int)+1:=oM
 have av:(0:Int)<=(i:Int)+1:=oM
 have aw:(i:Int)+1<=(p:Int)+1:=oM
 have ax:p+1<=cap:=O;have aL:((i:Int)+1).toNat=i+1:=oM
 have ay: ¬(cap=p):=oM
 have az: ¬(cap=i):=oM
 have aA:p<=p+1:=oM
 have aB:i+1<=p+1:=oM
 have aC:p+1 - p=1:=oM
 have ar:i<=cap:=oM
 have au: ¬cap<i:=oM
 have aq:p+1 - (i+1)=p - i:=oM
 clear q x z J D N l t T V h r I
 by_cases ae:cap=i+1
 focus
  have aI:p - i=0:=oM
  have ai: ∀j u,(xs.drop ((i+1) * 2))[j]?=cw u->w.drew.cell? ((⟨g,0,cx⟩:Addr).add j)=cw u:=fun j u ag=>by have:=(cI.1 ag).1;rw[Y.o] at this;omega
  subst ae;go_enter func165,ntmps165;go_wp2;refine qm #[cB,cB,cB,cB,cB,cB,cB,cB] 8 oP oO rfl ?_;refine cv (i:=0) (v:=(hA (cw ⟨g,0,cx⟩) (p+1) (i+1))) rfl oP oP oP (fun _ _ _ h=>h) (cF ⟨oO,fun w=>by first|rfl| (go_simp;try with_reducible rfl)⟩) ?_;simp only[cQ,cO,cy,gU];refine cv (i:=1) (v:=(gE ha i)) rfl oP oP oP (fun _ _ _ h=>h) (cF ⟨oO,fun w=>by first|rfl| (go_simp;try with_reducible rfl)⟩) ?_;simp only[ki,cy,gU];refine cv (i:=2) (v:=(hA (cw ⟨g,0,cx⟩) i (i+1))) rfl oP oP oP (fun _ _ _ h=>h) (cF ⟨oO,fun w=>by first|rfl| (go_simp;try with_reducible rfl)⟩) ?_;simp only[ki,cy,gU];refine cv (i:=3) (v:=(hA (cw ⟨g,0,cx⟩) (p+1) (i+1))) rfl oP oP oP (fun _ _ _ h=>h) (cF ⟨oO,fun w=>by first|rfl| (go_simp;try with_reducible rfl)⟩) ?_;simp only[ki,cy,gU];refine cv (i:=4) (v:=(gE ha ((i:Int)+1))) rfl oP oP oP (fun _ _ _ h=>h) (cF ⟨oO,fun w=>by first|rfl| (go_simp;try with_reducible rfl)⟩) ?_;simp only[ki,cy,gU];refine cv (i:=5) (v:=(hA (cw ⟨g,0,cx⟩) (p - i) ((i+1) - (i+1)))) rfl oP oP oP (fun _ _ _ h=>h) (cF ⟨oO,fun w=>by first|rfl| (go_simp;try with_reducible rfl)⟩) ?_;simp only[ki,cy,gU];refine iG 6 fun K hK=>?_;refine wp_append_run _ _ 41 41 rfl _ _ rfl rfl (H.o _ _ ai) ?_
 rotate_left;focus go_enter func165,ntmps165;go_wp2;refine qm #[cB,cB,cB,cB,cB,cB,cB,cB] 8 oP oO rfl ?_;refine cv (i:=0) (v:=(hA (cw ⟨g,0,cx⟩) (p+1) cap)) rfl oP oP oP (fun _ _ _ h=>h) (cF ⟨oO,fun w=>by first|rfl| (go_simp;try with_reducible rfl)⟩) ?_;simp only[cQ,cO,cy,gU];refine cv (i:=1) (v:=(gE ha i)) rfl oP oP oP (fun _ _ _ h=>h) (cF ⟨oO,fun w=>by first|rfl| (go_simp;try with_reducible rfl)⟩) ?_;simp only[ki,cy,gU];refine cv (i:=2) (v:=(hA (cw ⟨g,0,cx⟩) i cap)) rfl oP oP oP (fun _ _ _ h=>h) (cF ⟨oO,fun w=>by first|rfl| (go_simp;try with_reducible rfl)⟩) ?_;simp only[ki,cy,gU];refine cv (i:=3) (v:=(hA (cw ⟨g,0,cx⟩) (p+1) cap)) rfl oP oP oP (fun _ _ _ h=>h) (cF ⟨oO,fun w=>by first|rfl| (go_simp;try with_reducible rfl)⟩) ?_;simp only[ki,cy,gU];refine cv (i:=4) (v:=(gE ha ((i:Int)+1))) rfl oP oP oP (fun _ _ _ h=>h) (cF ⟨oO,fun w=>by first|rfl| (go_simp;try with_reducible rfl)⟩) ?_;simp only[ki,cy,gU];refine cv (i:=5) (v:=(hA (cw ⟨g,((i+1) * 2),cx⟩) (p - i) (cap - (i+1)))) rfl oP oP oP (fun _ _ _ h=>h) (cF ⟨oO,fun w=>by first|rfl| (go_simp;try with_reducible rfl)⟩) ?_;simp only[ki,cy,gU];refine iG 6 fun K hK=>?_;refine wp_append_run _ _ 41 41 rfl _ _ rfl rfl (H.o _ _ Z.o) ?_
 all_goals refine hK _ _ ?_;clear hK K;simp only[cy,gU];refine iG 7 fun K hK=>?_;go_simp;refine hK _ _ ?_;clear hK K;refine kS ?_;have l:=X.o;go_wp2;go_ret;exact⟨_,rfl,G.o.1,G.o.2,rfl⟩
theorem Kc (gM:Nat) (v:cN) (p:Nat) (xs:List cN) (w:cS) (h:gW w gM 88 1 v (p+1) xs) (i:Nat) (aD:i<=p) (aa: ∀u∈xs,u.oneCell'=cM) (aF:p<=1000):
  dz cz 196 #[v, gE ha i, gE ha ((i:Int)+1)] w fun e w'=> ∃v',e= ht v'/\gW w' gM 88 1 v' p (xs.take (i)++xs.drop ((i+1)))/\w.grownBy w' v.ownBlock/\v'.ownBlock=v.ownBlock:=by
 obtain⟨aj,ad,aH,H,aI⟩:=info_parts wU;rcases h.2 with⟨rfl,aB⟩|⟨g,cap,cur,rfl,ab,D,T,O,F,G⟩;omega;have z:=h.1;rw[cR] at G F z;have aE:cap<=9223372036854775807:=by unfold c7 at O;omega
 have aC:(p+1)<=cur.size:=jU T F;have q:(xs.drop ((i+1))).length=(p - i):=by rw[cJ,z,Nat.add_sub_add_right]
 have V: ∀w,(zeroValue 88).run cz w= .ok (.pointer cx) w:=fun w=>oP
 have U:=wY (xs:=xs) (k:=1) (n:=p+1) (w:=w.drew) D (by rw[cR];exact G) ((i+1));have s:=fun(W:Addr) (ak:Nat) (af: ∀j u,(xs.drop ((i+1)))[j]?=cw u->w.drew.cell? (W.add j)=cw u)=>ez (P:=cz) w.drew 127 127 88 aj cH ad g i cap cur D W (p - i) ak (xs.drop ((i+1))) (by rw[H,cR];exact q) af (fun u y=>aa u (c0 y)) oM (by rw[H,q];omega);rw[H,cR] at s;obtain⟨f,B⟩:=nM (cur.toList.take (i)++xs.drop ((i+1))++cur.toList.drop (i+(xs.drop ((i+1))).length));rw[B,show i+(p - i)=p by omega] at s;have x:=fun zs ah=>Ey (C:=cur.toList) (xs:=xs) (zs:=zs) (a:=i) (k:=1) (p:=p) G (by rw[cA];omega) oM (by rw[z]) ah;simp only[B] at x;have M:f.length=cur.size:=by rw[<-cA];exact(x [.nilFunc] rfl).2.2
 have E:(w.drew.setRow g f.toArray).heap[g]?=cw (.cells f.toArray 88 (0,0)):=cT w.drew g cur _ _ _ D;obtain⟨zs,ai,l⟩:=Ev (P:=cz) (w.drew.setRow g f.toArray) 127 88 0 _ 1 cH V rfl (by intro u y;simp[dB] at y;subst y;rfl) g p 1 (cap - p) oF f.toArray E (by rw[cE,M];omega);have t:=x zs (by rw[ai]);rw[cC,show p+1 * 1=p+1 by omega] at l;obtain⟨r,N⟩:=nM (f.take (p)++zs++f.drop (p+1));rw[N] at l t;have R:((w.drew.setRow g f.toArray).setRow g r.toArray).heap[g]?=cw (.cells r.toArray 88 (0,0)):=cT _ g _ _ _ _ E;have I:Hid (gW ((w.drew.setRow g f.toArray).setRow g r.toArray) gM 88 1 (.slice (cw ⟨g,0,cx⟩) p cap) p (xs.take (i)++xs.drop ((i+1)))/\w.grownBy ((w.drew.setRow g f.toArray).setRow g r.toArray) (cw g)):=gF ⟨gW.mk' (by rw[iI,cG,q,z];omega) ab R oM O (by rw[cE,t.2.1,cA,cR];exact F) (by rw[cC,cR];exact t.1),
  ((⟨rfl,rfl,rfl,cL _,fun _ _ _=>rfl⟩:w.grownBy w.drew (cw g)).trans (tZ _ g _)).trans (tZ _ g _)⟩
 have X:=gF l;have J:=gF s;have Z:=gF U;have Y:=gF q;have aK:((i:Int)==(i:Int)+1)=false:=oN
 have aL: ¬((i:Int)=(i:Int)+1):=oM
 have al:i<=p+1:=oM
 have am:(i:Int)<=(i:Int)+1:=oM
 have ar:(0:Int)<=(i:Int)+1:=oM
 have au:(i:Int)+1<=(p:Int)+1:=oM
 have av:p+1<=cap:=T;have aJ:((i:Int)+1).toNat=i+1:=oM
 have aw: ¬(cap=p):=oM
 have ax: ¬(cap=i):=oM
 have ay:p<=p+1:=oM
 have az:i+1<=p+1:=oM
 have aA:p+1 - p=1:=oM
 have ap:i<=cap:=oM
 have aq: ¬cap<i:=oM
 have ao:p+1 - (i+1)=p - i:=oM
 clear x t B N E R l s U V h q M
 by_cases ac:cap=i+1
 focus
  have aG:p - i=0:=oM
  have ag: ∀j u,(xs.drop ((i+1)))[j]?=cw u->w.drew.cell? ((⟨g,0,cx⟩:Addr).add j)=cw u:=fun j u ae=>by have:=(cI.1 ae).1;rw[Y.o] at this;omega
  subst ac;go_enter func196,ntmps196;go_wp2;refine qm #[cB,cB,cB,cB,cB,cB,cB,cB] 8 oP oO rfl ?_;refine cv (i:=0) (v:=(hA (cw ⟨g,0,cx⟩) (p+1) (i+1))) rfl oP oP oP (fun _ _ _ h=>h) (cF ⟨oO,fun w=>by first|rfl| (go_simp;try with_reducible rfl)⟩) ?_;simp only[cQ,cO,cy,gU];refine cv (i:=1) (v:=(gE ha i)) rfl oP oP oP (fun _ _ _ h=>h) (cF ⟨oO,fun w=>by first|rfl| (go_simp;try with_reducible rfl)⟩) ?_;simp only[ki,cy,gU];refine cv (i:=2) (v:=(hA (cw ⟨g,0,cx⟩) i (i+1))) rfl oP oP oP (fun _ _ _ h=>h) (cF ⟨oO,fun w=>by first|rfl| (go_simp;try with_reducible rfl)⟩) ?_;simp only[ki,cy,gU];refine cv (i:=3) (v:=(hA (cw ⟨g,0,cx⟩) (p+1) (i+1))) rfl oP oP oP (fun _ _ _ h=>h) (cF ⟨oO,fun w=>by first|rfl| (go_simp;try with_reducible rfl)⟩) ?_;simp only[ki,cy,gU];refine cv (i:=4) (v:=(gE ha ((i:Int)+1))) rfl oP oP oP (fun _ _ _ h=>h) (cF ⟨oO,fun w=>by first|rfl| (go_simp;try with_reducible rfl)⟩) ?_;simp only[ki,cy,gU];refine cv (i:=5) (v:=(hA (cw ⟨g,0,cx⟩) (p - i) ((i+1) - (i+1)))) rfl oP oP oP (fun _ _ _ h=>h) (cF ⟨oO,fun w=>by first|rfl| (go_simp;try with_reducible rfl)⟩) ?_;simp only[ki,cy,gU];refine iG 6 fun K hK=>?_;refine wp_append_run _ _ 127 127 rfl _ _ rfl rfl (J.o _ _ ag) ?_
 rotate_left;focus go_enter func196,ntmps196;go_wp2;refine qm #[cB,cB,cB,cB,cB,cB,cB,cB] 8 oP oO rfl ?_;refine cv (i:=0) (v:=(hA (cw ⟨g,0,cx⟩) (p+1) cap)) rfl oP oP oP (fun _ _ _ h=>h) (cF ⟨oO,fun w=>by first|rfl| (go_simp;try with_reducible rfl)⟩) ?_;simp only[cQ,cO,cy,gU];refine cv (i:=1) (v:=(gE ha i)) rfl oP oP oP (fun _ _ _ h=>h) (cF ⟨oO,fun w=>by first|rfl| (go_simp;try with_reducible rfl)⟩) ?_;simp only[ki,cy,gU];refine cv (i:=2) (v:=(hA (cw ⟨g,0,cx⟩) i cap)) rfl oP oP oP (fun _ _ _ h=>h) (cF ⟨oO,fun w=>by first|rfl| (go_simp;try with_reducible rfl)⟩) ?_;simp only[ki,cy,gU];refine cv (i:=3) (v:=(hA (cw ⟨g,0,cx⟩) (p+1) cap)) rfl oP oP oP (fun _ _ _ h=>h) (cF ⟨oO,fun w=>by first|rfl| (go_simp;try with_reducible rfl)⟩) ?_;simp only[ki,cy,gU];refine cv (i:=4) (v:=(gE ha ((i:Int)+1))) rfl oP oP oP (fun _ _ _ h=>h) (cF ⟨oO,fun w=>by first|rfl| (go_simp;try with_reducible rfl)⟩) ?_;simp only[ki,cy,gU];refine cv (i:=5) (v:=(hA (cw ⟨g,(i+1),cx⟩) (p - i) (cap - (i+1)))) rfl oP oP oP (fun _ _ _ h=>h) (cF ⟨oO,fun w=>by first|rfl| (go_simp;try with_reducible rfl)⟩) ?_;simp only[ki,cy,gU];refine iG 6 fun K hK=>?_;refine wp_append_run _ _ 127 127 rfl _ _ rfl rfl (J.o _ _ Z.o) ?_
 all_goals refine hK _ _ ?_;clear hK K;simp only[cy,gU];refine iG 7 fun K hK=>?_;go_simp;refine hK _ _ ?_;clear hK K;refine kS ?_;have l:=X.o;go_wp2;go_ret;exact⟨_,rfl,I.o.1,I.o.2,rfl⟩
mutual
def Nd.er:Nd->Nd
 | .mk ps ks _=> .mk ps (Nd.zg ks) 0
def Nd.zg:List Nd->List Nd
 | []=>[]
 | k::ks=>k.er::Nd.zg ks
end
theorem Nd.vY (l:List Nd):Nd.zg l=l.map Nd.er:=by
 induction l with
 | nil=>rfl
 | cons h l f=>rw[Nd.zg,f];rfl
theorem Nd.jJ (n:Nd):n.er= .mk n.ps (n.gC.map Nd.er) 0:=by cases n;rw[Nd.er,Nd.vY];rfl
theorem Nd.od (n:Nd):n.er.ps=n.ps:=by rw[Nd.jJ];rfl
theorem Nd.jN (n:Nd):n.er.gC=n.gC.map Nd.er:=by rw[Nd.jJ];rfl
theorem Nd.sN: ∀n:Nd,n.er.ie=n.ie:=by
 intro n
 induction n using Nd.ind with
 | h ps j page f=>
  cases j with
  | nil=>rw[Nd.jJ];rfl
  | cons k l=>rw[Nd.jJ,Nd.ie];exact f k oC
theorem Nd.xI: ∀n:Nd,n.er.er=n.er:=by
 intro n
 induction n using Nd.ind with
 | h ps l page j=>rw[Nd.jJ (n:=Nd.er _),Nd.od,Nd.jN,Nd.jJ];congr 1;rw[List.map_map];exact eN fun k f=>j k f
theorem Nd.lS: ∀n:Nd,n.er.iv=n.iv:=by
 intro n
 induction n using Nd.ind with
 | h ps f page l=>
  by_cases h:f=[]
  subst h;rfl;rw[Nd.iu (n:= .mk ps f page) h,Nd.iu (n:=Nd.er (.mk ps f page)) (by rw[Nd.jN];intro e;exact h (eM.1 e)),Nd.jN,List.map_map];congr 1;exact eN fun k j=>l k j
theorem Nd.oU {n:Nd}:n.er.gC=[]↔n.gC=[]:=by rw[Nd.jN,eM]
theorem zh (l:List Nd) (key:ByteArray):ly (l.map Nd.er) key=ly l key:=by
 unfold ly;rw[<-List.map_tail,List.takeWhile_map,dv];have:((fun k:Nd=> !iB key k.ie) ∘ Nd.er)=fun k:Nd=> !iB key k.ie:=by funext k;simp[Nd.sN]
 rw[this]
theorem kM.er: ∀{n:Nd},kM n->kM n.er:=by
 intro n
 induction n using Nd.ind with
 | h ps u page t=>
  intro h;rw[Nd.jJ];cases h with
  | lf _ _ l q f=>exact .lf _ _ l q f
  | mD _ _ p r f=>refine .mD _ _ (by rw[dv];exact p) (by rw[dv];exact r) fun k s=>?_;obtain⟨c,j,rfl⟩:=dx.1 s;exact t c j (f c j)
theorem vZ {x:Kv} {n:Nd} (h:n.gC=[]):jB x n=jA (kR (iN n.ps x)):=by rw[jB,if_pos h]
theorem xJ {x:Kv} {n:Nd} (h:n.gC≠[]):jB x n=jA (kt (n.gC.take (ly n.gC x.1)++(jB x (n.gC[ly n.gC x.1]'(p7 _ h))).1::(jB x (n.gC[ly n.gC x.1]'(p7 _ h))).2.toList++n.gC.drop (ly n.gC x.1+1))):=by
 rw[jB,if_neg h];split;rename_i f;have:=p7 x.1 h;rw[ev] at f;omega;rename_i c f;obtain⟨j,rfl⟩:=cI.1 f;rfl
theorem Ez {ps:List Kv} (x:Kv) (h:jZ ps):iN ps x=if jR ps x.1 then ps.set (jM ps x.1) x else ps.take (jM ps x.1)++x::ps.drop (jM ps x.1):=by
 induction ps with
 | nil=>rfl
 | cons p l y=>
  obtain⟨s,t⟩:=List.pairwise_cons.1 h;have f:=y t;unfold iN at f |-;unfold jR jM at f |-
  by_cases r:iB p.1 x.1=cM
  . simp only[eL,r,if_true,dS,j1,eB,eQ,c6,dw,List.cons_append] at f |-;rw[f];split<;>rfl
  have u:iB p.1 x.1=false:=by simpa using r
  simp only[eL,u,dS,List.length_nil,eA,dt,eT,dO,dQ,List.drop_zero,List.set_cons_zero,Bool.false_eq_true,if_false]
  by_cases j:p.1=x.1
  simp only[j,decide_true,if_true];have:l.dropWhile (fun q=>decide (q.1=x.1))=l:=by
   cases l with
   | nil=>rfl
   | cons q z=>have:=q9 (s q oC);rw[dS,if_neg];simp only[decide_eq_true_eq];rw[<-j];exact fun e=>this e.symm
  rw[this];simp[j]
structure sB (gM:Nat) (w w':cS) (t t':AT):Prop where
 b:t'.b=t.b
 lies:h9 gM w' t'
 nodup:t'.fp.Nodup
 fp: ∀x∈t'.fp,x∈t.fp\/w.heap.size<=x
 keep:gS t.fp w w'
theorem h9.iE {gM:Nat} {L:List Nat} {f A:cS} {t:AT} (h:h9 gM f t) (p:gS L f A) (l: ∀x∈t.fp,x∉L):h9 gM A t:=
 h.same fun x j=>p.2.2.2.2 x (h.lt x j).2 (l x j)
def nh (d:ik) (er:Int):mS:=⟨fun r=> .tuple #[r.x 0, gE ha er],fun r W=>iF W (r.x 0) d⟩
theorem qM {f:FuncId} {args:Array cN} {d:ik} {er:Int} {j:cS} (h:dz cz f args j (n9 j d er)):dz cz f args j fun e w'=> ∃u,e= ht u/\pR (nh d er) j u w':=by
 refine h.mono ?_;rintro e w' ⟨v,rfl,q,l⟩;exact⟨_,rfl,l,fun _=>v,rfl,fun r p=>q.below p⟩
def p8 (n:Nat) (l:List cN) (e:ea):mS:=⟨fun r=> hA (cw ⟨r.lo,0,cx⟩) n n,fun r W=>Bx W r.lo l.toArray e⟩
theorem EA (d:ik) (v:cN) (gI gJ:Int) (w:cS) (ak:iF w v d) (bl:d.gH.length<=999990):
  dz cz 14 #[v, gE ha gI, gE ha gJ] w (n9 w (kY d gI gJ).1 (kY d gI gJ).2):=by
 obtain⟨ah,ar⟩:=nM (kY d gI gJ);rw[ar];have al:=ak;obtain⟨aU,aT,aH,aG,rfl⟩:=ak.agg;obtain⟨q,aL⟩:=nM w.heap.size;obtain⟨W0,aa⟩:=nM ((w.alloc (hF (dC d aU aH aT aG) 25)).alloc (hF dZ 25));have aB:Bx W0 q (dC d aU aH aT aG) 25:=by subst aa aL;exact(Bx.new w _ _).alloc _
 have aW:Bx W0 (q+1) dZ 25:=by subst aa aL;exact Bx.ir _ _ _ _ oC
 have aj:c4 w.heap.size w W0:=by subst aa;exact(Below.one w _).alloc oC _
 have au:=al.below aj;have ax:=AQ d _ W0 au rfl;obtain⟨a3,aw⟩:=nM (iW d);rw[aw] at ax;have aE:=gF ax;have aD:=gF aw;have bc:=gF al;have U:=gF ar;obtain⟨W,ac⟩:=aB.c2;clear ax aw ak al ar;go_enter func14,ntmps14;go_wp2_with fail;refine aE.o.mono ?_;rintro e af ⟨rfl,M⟩;have O:=aB.gD M;have l:=aW.gD M;have C:=iq aj M;have J:=au.below M;clear W ac aB aW aa M aj au aE;cases aO:(a3 !=0);rotate_left;focus
  have T:Hid (ah=(jX,1)):=gF (by
   have:iW d≠0:=by rw[aD.o];simpa using aO
   have e:iQ d gI gJ=1:=by unfold iQ;rw[if_pos this]
   rw[<-U.o];unfold kY;rw[e];rfl)
  obtain⟨Wf,f⟩:=nM (mj af (q+1) (gE ha 0) (hA cx 0 0) (hA cx 0 0) (gE ha 0));have R:Bx Wf (q+1) dZ 25:=by subst f;exact l.mj
  have t:c4 w.heap.size w Wf:=by subst f;exact r8 C oM
  have E:=gF f;have V:=gF t;clear t f;obtain⟨W,ac,aI⟩:=l.c3;go_wp2;have p:=E.o;unfold mj at p;rw[p];have H:=R.cell;refine dD (v:= .tuple #[.agg dZ, gE ha 1]) (by simp[eC,eu,go_sem,H]) rfl ?_
 rotate_left;have r:iW d=0:=by rw[aD.o];simpa using aO
 have bd:=gF r;obtain⟨ai,aS⟩:=O.c2;unfold dC at ai;cases B:jE d gI gJ;focus
  have T:Hid (ah=(jX,2)):=gF (by
   have e:iQ d gI gJ=2:=by unfold iQ;rw[if_neg (by simpa using r),if_pos B]
   rw[<-U.o];unfold kY;rw[e];rfl)
  have N:=wQ d _ gI gJ af r B J;have G:=gF N;clear N r B;go_wp2_with fail;refine G.o.mono ?_;rintro e D ⟨rfl,j⟩;obtain⟨bb,a9⟩:=nP af;have l:=l.gD j;have C:=iq C j;clear ai aS O J G j a9 bb;obtain⟨Wf,f⟩:=nM (mj D (q+1) (gE ha 0) (hA cx 0 0) (hA cx 0 0) (gE ha 0));have R:Bx Wf (q+1) dZ 25:=by subst f;exact l.mj
  have t:c4 w.heap.size w Wf:=by subst f;exact r8 C oM
  have E:=gF f;have V:=gF t;clear t f;obtain⟨W,ac,aI⟩:=l.c3;go_wp2;have p:=E.o;unfold mj at p;rw[p];have H:=R.cell;refine dD (v:= .tuple #[.agg dZ, gE ha 2]) (by simp[eC,eu,go_sem,H]) rfl ?_
 rotate_left;.
  have N:=wQ d _ gI gJ af r B J;have G:=gF N;have aQ:iQ d gI gJ=0:=by unfold iQ;rw[if_neg (by simpa using r),if_neg (by simp[B])]
  obtain⟨a5,bf,bg,bh,bi⟩:=ra B;have a8:=pd (nY r).1;obtain⟨y,ab⟩:=nM (bs (jg []));obtain⟨u,Z⟩:=nM (bs (jd 512 1 0));have bk:y.size<=1000:=by rw[<-ab,lM];simp[jg]
  have bj:u.size<=1000:=by rw[<-Z,lM];simp[jd,jh]
  obtain⟨F,I,am⟩: ∃F I,gR d (j0 [⟨gI,y⟩,⟨gI+1,u⟩])=(F,I):=⟨_,_,rfl⟩;have T:Hid (ah=(F,I)):=gF (by rw[<-U.o, <-am, <-ab, <-Z];unfold kY;rw[if_neg (by simp[aQ])];rfl);have aZ:=gF am;have az:=fun x=>Ja x;have ay: ∀x,dz cz 47 #[gE ha 1, gE ha 0] x fun e w'=>e= ht (hE (bs (jd 512 1 0)))/\c4 x.heap.size x w':=fun x=>yR 1 0 x;simp only[ab] at az;simp only[Z] at ay;have a1:=gF az;have a0:=gF ay;have bm:gI<=2000:=oM
  have bn:wrap64 (gI+1)=gI+1:=IntWalk.wrap64_in _ oM;clear N r B aQ az ay am ab Z a5 a8 U;go_wp2_with fail;refine G.o.mono ?_;rintro e D ⟨rfl,j⟩;have O:=O.gD j;have l:=l.gD j;have a6:=iq C j;have a7:=gF (J.below j);clear ai aS C J G j;obtain⟨aF,a'⟩:=O.c2;unfold dC at aF;have be:=jv.cells D;have aY:Hid (∀ag:jv D,c4 D.heap.size D ag.w):=gF fun ag=>ag.h;go_wp2;refine pS 12 2 #[cM,cM,cM,cM,cM,cM,cM,cM,cM,cM,cM,cM,cB,cB] (fun i=>if i=2 then cw (iw (hE y)) else if i=3 then cw (iw (.agg #[gE ha gI, hE y])) else if i=7 then cw (iw (.agg #[gE ha (gI+1), hE u])) else if i=6 then cw (iw (hE u)) else if i=8 then cw (p8 2 [gE ha gI, hE y, gE ha (gI+1), hE u] 80) else if i=9 then cw (nh F I) else cx) oP oO oO oP ?_;simp only[c6,dQ];refine LW.b 2 2 ?_;simp only[jC];repeat (go_big_quiet_step (fail))
  refine dn ?_;refine LW.z ?_ ?_;. intro s _;unfold ix;go_simp;exact qF (a1.o _)
  intro _;simp only[cy,gU]
  (try simp only[iw])
  refine LW.z ?_ ?_;intro s _;exact pC ((by go_simp));intro _;simp only[cy,gU]
  (try simp only[iw])
  refine LW.b 2 6 ?_;simp only[jC];repeat (go_big_quiet_step (fail))
  refine dn ?_;refine LW.z ?_ ?_;. intro s _;unfold ix;go_simp;exact qF (a0.o _)
  intro _;simp only[cy,gU]
  (try simp only[iw])
  refine LW.z ?_ ?_;intro s _;exact pC ((by go_simp));intro _;simp only[cy,gU]
  (try simp only[iw])
  refine LW.z ?_ ?_;. intro s aP;unfold ix;go_simp;exact⟨Below.one _ _,fun _=>undef,rfl,fun bo av=>(Bx.new s.w _ _).gD av⟩
  intro aA;simp only[cy,gU];refine LW.z ?_ ?_;.
   intro s aP;have aJ:Bx s.w aA.lo #[gE ha gI, hE y, gE ha (gI+1), hE u] 80:=(aP 8 (by decide+kernel)).get oO oO;unfold ix;simp only[p8];go_simp;have aM:=Bc d _ [⟨gI,y⟩,⟨gI+1,u⟩] (cw ⟨aA.lo,0,cx⟩) 2 s.w (a7.o.below (aY.o _)) ((iV.js (S:=fun b=>b=aA.lo) (gO.bx aJ)).mono fun b av=>by rw[av];exact aJ.lt) (.inr ⟨_,rfl,oC,by simp[c7]⟩) (by intro ag aR;simp at aR;rcases aR with rfl|rfl<;>simp<;>omega) (by simp only[j1,List.length_nil];omega)
   rw[aZ.o] at aM;exact qM aM
  intro ba;simp only[cy,gU,nh];refine LW.b 2 12 ?_;simp only[jC];repeat (go_big_quiet_step (fail))
  refine dn ?_;refine LW.done ?_;intro aV ao;have aN:iF aV (ba.x 0) F:=ao.get 9 rfl rfl;have ap:=ao.below;have aq:=aN;obtain⟨ae,ad,Y,X,a4⟩:=aN.agg;rw[a4] at aq |-;have aC:=l.gD ap;have aK:=iq a6 ap;obtain⟨Wf,f⟩:=nM (mj aV (q+1) (gE ha F.size) (hA ae F.gG.length ad) (hA Y F.gH.length X) (gE ha F.left));have R:Bx Wf (q+1) (dC F ae Y ad X) 25:=by subst f;exact aC.mj
  have t:c4 w.heap.size w Wf:=by subst f;exact r8 aK oM
  have aX:iF Wf (.agg (dC F ae Y ad X)) F:=by subst f;exact aq.only aC wX tY
  have E:=gF f;have V:=gF t;have a2:=gF aX;clear ao aF a' ap t aX aq aK f;obtain⟨W,ac,aI⟩:=aC.c3;refine iG 12 fun K hK=>?_;go_simp;refine hK _ _ ?_;clear hK K;refine iG 13 fun K hK=>?_;go_simp;refine hK _ _ ?_;clear hK K;refine kS ?_;go_wp2;have p:=E.o;unfold mj at p;rw[p];have H:=R.cell;refine dD (v:= .tuple #[.agg (dC F ae Y ad X), gE ha I]) (by simp[eC,eu,go_sem,H]) rfl ?_;rw[T.o];exact⟨_,rfl,a2.o,V.o⟩
 all_goals rw[T.o];exact⟨_,rfl,rE _,V.o⟩
section
variable {P:Program} {ops:Array Oper} {md:ed} {W0:cS} {an:kg}
theorem Ke {n i:Nat} {oi:Oper} {S:Option Rec->cN->Prop} {L:Array Bool->iz->Act->Prop} (F:ops[i]?=cw oi) (J: ∀(j:Nat) (o:Oper) y b,ops[j]?=cw o->o.op≠ .select y b)
  (x: ∀t,t<ops.size->n<=t->(oT md ops 8 [t]).contains i=cM) (af:i<n) (R: ∀listed ξ a,L listed ξ a-> ∀j∈di md ops listed,n<=j):
  ∀(f:Nat) (listed:Array Bool) (ξ:iz) (a:Act),j2 md ops n listed->
   (∀j oj,ops[j]?=cw oj->j≠i->listed.getD j cM=cB->(∀e∈oj.after,dV md e=cM->e.on≠i)->oi.apart ops oj=cM)->
   i∈di md ops listed->mf P ops md an W0 i oi ξ a S->
   (∀ρ v,S ρ v->AO P ops md an W0 n L f (listed.setIfInBounds i cM) (nU ξ i ρ) (a.put oi.dst v))->AO P ops md an W0 n L (f+1) listed ξ a:=by
 intro f;have E: ∀(listed:Array Bool),j2 md ops n listed->i∈di md ops listed-> ∀j∈di md ops listed,j<n:=by
  intro listed u l j p;rcases eI j n with q|q;exact q;exfalso;have Y:j<ops.size:=by obtain⟨_,oj,s,_⟩:=eO.1 p;exact(cZ.1 s).1
  rcases r4 p u.closed (x j Y q) with h|h;omega;rw[eP (eO.1 l).1] at h;cases h
 induction f with
 | zero=>
  intro listed ξ a u _ l hy H;refine⟨fun q=>(by rw[q] at l;cases l),fun j p=>⟨E listed u l j p,fun oj s=>?_⟩⟩
  by_cases r:j=i
  subst r;obtain rfl:oj=oi:=dT (s.symm.trans F);exact⟨S,hy,H⟩;obtain⟨ρ,v,x⟩:=hy.some;have:=R _ _ _ (H ρ v x) j (ready_mono p r);have:=E listed u l j p;omega
 | succ f ae=>
  intro listed ξ a u nb l hy H;refine⟨fun q=>(by rw[q] at l;cases l),fun j p=>⟨E listed u l j p,fun oj s=>?_⟩⟩
  by_cases r:j=i
  subst r;obtain rfl:oj=oi:=dT (s.symm.trans F);exact⟨S,hy,H⟩;obtain⟨G,B,ab,N⟩:=eO.1 p;obtain rfl:B=oj:=dT (ab.symm.trans s);have z:=(eO.1 l).1;have aa: ∀e∈B.after,dV md e=cM->e.on≠i:=fun e T O U=>by have D:=N e T O;rw[U,eP z] at D;cases D
  have ac:mH md ops i j=false:=by
   cases q:mH md ops i j with
   | false=>rfl
   | true=>rcases r4 l u.closed q with h|h;exact absurd h r;rw[eP G] at h;cases h
  have ad:mH md ops j i=false:=by
   cases q:mH md ops j i with
   | false=>rfl
   | true=>rcases r4 p u.closed q with h|h;exact absurd h.symm r;rw[eP z] at h;cases h
  have V: ∀k C,ops[k]?=cw C->k≠i->(listed.setIfInBounds j cM).getD k cM=cB->
    (∀e∈C.after,dV md e=cM->e.on≠i)->oi.apart ops C=true:=fun k C W X z Z=>by
   refine nb k C W X ?_ Z
   by_cases I:j=k
   . subst I;exact G
   . rw[getD_set_ne cM I] at z;exact z
  refine(mm.swap (Ne.symm r) (nb j B s r G aa) (fun y b=>J i oi y b F) (fun y b=>J j B y b s) ac ad hy fun ρ v x=>((H ρ v x).2 j (ready_mono p r)).2 B s).mono ?_;rintro ξ' M ⟨D,h⟩;refine ae (listed.setIfInBounds j cM) ξ' M (u.set p) V (ready_mono l (Ne.symm r)) D fun ρ v x=>?_;rw[Array.setIfInBounds_comm _ _ r];exact h ρ v x
theorem EB {n:Nat} {q:iz->Act->Prop} (B:eg ops=cM) (p:Nat) (z: ∀i,p<=i->i<n-> ∀t,t<ops.size->n<=t->(oT md ops 8 [t]).contains i=cM) (done:Array Bool) (u:(di md ops done).all (fun j=>decide (n<=j))=cM):
  ∀(l:List Oper) (k:Nat) (listed:Array Bool) (ξ:iz) (a:Act),(∀j,j<l.length->l[j]?=ops[k+j]?)->p<=k->k+l.length=n->j2 md ops n listed->lr listed l.length k=done->
  rI md ops n l.length k listed=cM->LW P ops md an W0 q l k ξ a->AO P ops md an W0 n (fun C ξ' r=>C=done/\q ξ' r) l.length listed ξ a
 | [],k,listed,ξ,a,_,_,_,_,hd,_,h=>⟨hd,h⟩
 | o::l,k,listed,ξ,a,hl,Kf,hk,inv,hd,hB,h=>by
  have s:ops[k]?=cw o:=by simpa using (hl 0 oC).symm
  simp only[j1,rI,ei] at hB;obtain⟨⟨H,G⟩,D⟩:=hB;have x:k<n:=by simp only[j1] at hk;omega
  have y:k∈di md ops listed:=by simpa using H
  obtain⟨S,F,hK⟩:=h;refine Ke s (Region.noSelect_spec B) (z k Kf x) x (fun C _ r E j f=>?_) l.length listed ξ a inv (Region.free_spec s G) y F fun ρ v hs'=>?_;rw[E.1] at f;exact of_decide_eq_true (dK.1 u j f);exact EB B p z done u l (k+1) _ _ _ (fun j f=>by have:=hl (j+1) oN;simpa[Nat.add_assoc,Nat.add_comm 1 j] using this) oM (by simp only[j1] at hk;omega) (inv.set y) (by simpa[lr] using hd) D (hK ρ v hs')
def Kg (md:ed) (ops:Array Oper) (k n:Nat):Bool:=(eR ops.size).all fun t=>decide (t<n)||(eR n).all fun i=>decide (i<k)||(oT md ops 8 [t]).contains i
def Bk (md:ed) (ops:Array Oper) (listed:Array Bool):Bool:=decide (listed.size=ops.size)&&(eR ops.size).all fun j=> !listed.getD j cB||(ops.getD j default).after.all fun e=> !dV md e||listed.getD e.on cB
theorem Kh {n:Nat} {listed:Array Bool} (h:Bk md ops listed=cM):j2 md ops n listed:=by
 simp only[Bk,ei,decide_eq_true_eq] at h;refine⟨h.1,fun j oj p t e s r=>?_⟩;have u:j<ops.size:=(cZ.1 p).1;have f:=dK.1 h.2 j (dR.2 u);have q:ops.getD j default=oj:=by rw[Array.getD_eq_getD_getElem?,p];rfl
 rw[t,q] at f;simp only[Bool.not_true,Bool.false_or] at f;have l:=Array.all_eq_true_iff_forall_mem.1 f e s;rw[r] at l;simpa only[Bool.not_true,Bool.false_or] using l
def EC (md:ed) (ops:Array Oper) (k n:Nat) (listed:Array Bool):Bool:=eg ops&&Kg md ops k n&&Bk md ops listed&&rI md ops n (n - k) k listed
theorem Bl {Q:Exit->Act->cS->Prop} {a:Act} {w:cS} {l:List Oper} {listed:Array Bool} {q:Nat} (k n g:Nat) (done:Array Bool) (an:kg) (O:l.length=n+g) (N:k<=n) (B:q=n - k+g) (y:lr listed (n - k) k=done) (r:EC md l.toArray k n listed=cM) (H:c4 W0.heap.size W0 w)
  (h:LW P l.toArray md an W0 (fun ξ a'=> ∀w',Good an W0 ξ w'->wpAny P md l.toArray Q g done a' w') ((l.drop k).take (n - k)) k (fun _=>cx) a):wpAny P md l.toArray Q q listed a w:=by
 simp only[EC,ei] at r;obtain⟨⟨⟨F,E⟩,x⟩,t⟩:=r;have p:((l.drop k).take (n - k)).length=n - k:=oN
 have z:=xz _ _ _ t;have u:=EB (md:=md) F k (fun i M C J G R=>by
   have f:=dK.1 E J (dR.2 G);simp only[Bool.or_eq_true,decide_eq_true_eq] at f;rcases f with f|f;. omega
   .
    have j:=dK.1 f i (dR.2 C);simp only[Bool.or_eq_true,decide_eq_true_eq] at j;rcases j with j|j;. omega
    . exact j) _ z ((l.drop k).take (n - k)) k listed _ a (fun I s=>by
  have D:I<n - k:=by rw[p] at s;exact s
  simp[D]) (cL _) (by rw[p];omega) (Kh x) (by rw[p]) (by rw[p];exact t) h
 have:=xy (g:=g) (Q':=Q) (w:=w) (fun listed ξ a' w' hL hg=>?_) _ _ _ _ u (Good.start an H);rw[p] at this;rw[B];exact this;rw[hL.1,y];exact hL.2 w' hg
theorem Bn {id:Nat} {Q:Exit->Act->cS->Prop} {a:Act} {w:cS} {o:Oper} {rest:List Oper} (p:P.follows .mixedOrders=cM) (x:Operand) (v:cN) (q:o.op= .move x) (l:o.guard=cx) (t:a.eval x=v)
  (s:eg (o::rest).toArray=cM) (j:Region.free .any (o::rest).toArray (ej (rest.length+1) cB) 0=cM) (r:(di .any (o::rest).toArray (ej (rest.length+1) cB)).contains 0=cM) (f: ∀c b w,Q (.panic c) (b.put o.dst v) w->Q (.panic c) b w)
  (h:wpAny P .any (o::rest).toArray Q rest.length ((ej (rest.length+1) cB).setIfInBounds 0 cM) (a.put o.dst v) w.drew):(Code.region id (o::rest).toArray cM).wp P Q a w:=by
 refine wp_region_any p ?_;have e:(o::rest).toArray.size=rest.length+1:=oC
 rw[e];refine cv (i:=0) (oi:=o) (v:=v) rfl s j r f (cF ⟨by simp[Region.wanted,l],fun u=>by simp[execOp,q,t]⟩) h
end
variable {i gM n g c k b:Nat}{w A:cS}{e:ea}{xs:List cN}{ps:List Kv}{v pv kv:cN}{L:List Nat}{page:Int}
def ud (gM:Nat) (x:Kv) (t:AT) (w:cS) (e:Ending) (w':cS):Prop:=
 ∃t' o,e= ht (jP o)/\sB gM w w' t t'/\t'.nd.er=(jB x t.nd.er).1/\o.map (fun s=>s.nd.er)=(jB x t.nd.er).2/\
  ∀s,o=cw s->h9 gM w' s/\s.fp.Nodup/\(∀y∈s.fp,y∈t.fp\/w.heap.size<=y)/\ ∀y∈s.fp,y∉t'.fp
theorem Ki {l:List Kv} (h:i<l.length) (x:Kv):gV (l.set i x)=((gV l).set (i * 2) (hE x.1)).set (i * 2+1) (hE x.2):=by
 induction l generalizing i with
 | nil=>simp at h
 | cons f l r=>
  cases i with
  | zero=>rfl
  | succ i=>
   have j:gV (f::l)= hE f.1:: hE f.2::gV l:=rfl;have p:(i+1) * 2=i * 2+1+1:=oM
   have q:gV (f::l.set i x)= hE f.1:: hE f.2::gV (l.set i x):=rfl;rw[eQ,q,r (by simpa using h),j,p];rfl
theorem gW.Bo (h:gW w gM e 2 (hA (cw ⟨g,0,cx⟩) n c) n xs) (_hi:i<n) (u v:cN):
  gW ((w.setCell ⟨g,i * 2,cx⟩ u).setCell ⟨g,i * 2+1,cx⟩ v) gM e 2 (hA (cw ⟨g,0,cx⟩) n c) n ((xs.set (i * 2) u).set (i * 2+1) v):=by
 rcases h.2 with⟨f,_⟩|⟨p,cap,cur,f,q,j,t,r,x,y⟩;cases f;obtain⟨rfl,rfl⟩:g=p/\c=cap:=by simpa using f
 have z:=h.1;rw[setCell_eq_setRow w g (i * 2) cur e (0,0) u j];have l:=cT w g cur (cur.setIfInBounds (i * 2) u) e (0,0) j;rw[setCell_eq_setRow _ g (i * 2+1) _ e (0,0) v l];have s:=cT (w.setRow g (cur.setIfInBounds (i * 2) u)) g _ ((cur.setIfInBounds (i * 2) u).setIfInBounds (i * 2+1) v) e (0,0) l;refine gW.mk' (by rw[du,du];exact z) q s t r (by simpa using x) ?_;rw[ep,ep,List.take_set,List.take_set,y]
theorem gW.free (h:gW w gM e k (hA (cw ⟨g,0,cx⟩) n c) n xs) (o:Nat):w.frozen? ⟨g,o,cx⟩=false:=by
 rcases h.2 with⟨f,_⟩|⟨j,cap,cur,f,p,l,_⟩;cases f;obtain⟨rfl,rfl⟩:g=j/\c=cap:=by simpa using f
 simp[World.frozen?,l]
theorem wa (h:ps.length<=3):jA (kR ps)=(kR ps,cx):=by
 unfold jA;rw[if_pos (show(kR ps).gC=[] from rfl),if_neg (by show¬3<ps.length;omega)]
theorem xK (h:3<ps.length):jA (kR ps)=(kR (ps.take 2),cw (kR (ps.drop 2))):=by
 unfold jA;rw[if_pos (show(kR ps).gC=[] from rfl),if_pos (show 3<(kR ps).ps.length from h)];rfl
theorem gW.pos (h:gW w gM e k v n xs) (t:0<n): ∃g c,v= hA (cw ⟨g,0,cx⟩) n c/\gM<=g/\g<w.heap.size/\n<=c/\c<=c7:=by
 rcases h.2 with⟨f,s⟩|⟨g,j,cur,f,l,q,r,p,_⟩;omega;exact⟨g,j,f,l,(cZ.1 q).1,r,p⟩
theorem gW.cut {m:Nat} (h:gW w gM e k (hA (cw ⟨g,0,cx⟩) n c) n xs) (r:m<=n):gW w gM e k (hA (cw ⟨g,0,cx⟩) m m) m (xs.take (m * k)):=by
 have t:=h.1;rcases h.2 with⟨f,_⟩|⟨j,cap,cur,f,p,q,y,x,z,s⟩;cases f;obtain⟨rfl,rfl⟩:g=j/\c=cap:=by simpa using f
 have l:m * k<=n * k:=dc _ r;have u:m * k<=c * k:=dc _ oM;refine gW.mk' (by rw[cG,t];omega) p q (cL _) oM oM ?_;rw[<-s,dA,cU l]
theorem gS.pG {j B:cS} {q:Option Nat} (h:gS L j A) (f:A.grownBy B q) (s: ∀r,q=cw r->r∈L\/j.heap.size<=r):gS L j B:=
 ⟨f.os.trans h.1,f.tape.trans h.2.1,f.output.trans h.2.2.1,jU h.2.2.2.1 f.size,fun b l p=>(f.block b (iU l h.2.2.2.1) (fun e=>by rcases s b e.symm with h|h;exact p h;omega)).trans (h.2.2.2.2 b l p)⟩
theorem zi {p:cN} {r:List Kv} (t:(b::(pv.ownBlock.toList++(kv.ownBlock.toList++AT.iO []))).Nodup) (s: ∀y∈(AT.mk b pv kv ps [] page).fp,y<w.heap.size) (C:gM<=b)
  (h:Bx A b (gX cM p kv page) 129) (E:gW A gM 77 2 p r.length (gV r)) (D:gW A gM 88 1 kv 0 []) (x:p.ownBlock=pv.ownBlock\/ ∃M,w.heap.size<=M/\p.ownBlock=cw M)
  (hK:gS (AT.mk b pv kv ps [] page).fp w A):sB gM w A (.mk b pv kv ps [] page) (.mk b p kv r [] page):=by
 refine⟨rfl, .mk _ _ _ _ _ _ C h E D (fun _ f=>by cases f),?_,?_,hK⟩;rw[AT.fp];rcases x with f|⟨M,B,f⟩;rw[f];exact t;rw[AT.fp] at s;have u: ∀y∈b::(pv.ownBlock.toList++(kv.ownBlock.toList++AT.iO [])),y≠M:=fun y q e=>by have:=s y q;omega
 rw[f];have j:=dh.1 t;refine dh.2 ⟨fun l=>?_,?_⟩;rcases jD.1 l with l|l;simp at l;exact u b oC l;exact j.1 (cV _ l);have z:=(dk.1 j.2).2.1;refine dk.2 ⟨oC,z,?_⟩;intro F h y q e;simp at h;exact u y (cP _ (cV _ q)) (by rw[<-e];exact h);intro F h;rw[AT.fp] at h |-;rcases j4.1 h with f|f;exact .inl (by rw[f];simp);rcases jD.1 f with f|f;rcases x with j|⟨M,B,j⟩;rw[j] at f;exact .inl (cP _ (da _ f));rw[j] at f;simp at f;exact .inr oM;exact .inl (cP _ (cV _ f))
theorem Kj (l:List Kv) (i:Nat) (x:Kv):gV (l.take i++x::l.drop i)=(gV l).take (i * 2)++[hE x.1, hE x.2]++(gV l).drop (i * 2):=by
 induction l generalizing i with
 | nil=>simp[gV,uI]
 | cons f l q=>
  cases i with
  | zero=>rfl
  | succ i=>
   have h:gV (f::l)= hE f.1:: hE f.2::gV l:=rfl;have j:(i+1) * 2=i * 2+1+1:=oM
   have p:gV (f::(l.take i++x::l.drop i))= hE f.1:: hE f.2::gV (l.take i++x::l.drop i):=rfl;rw[c6,dw,List.cons_append,p,q i,h,j];rfl
theorem Kk (l:List Kv) (h:i<=l.length) (x:Kv):(l.take i++x::l.drop i).length=l.length+1:=by
 simp;omega
theorem xL (l:List Kv) (i:Nat):gV (l.take i)=(gV l).take (i * 2):=by
 induction l generalizing i with
 | nil=>simp[gV]
 | cons f l q=>
  cases i with
  | zero=>simp[gV]
  | succ i=>
   have h:gV (f::l)= hE f.1:: hE f.2::gV l:=rfl;have j:(i+1) * 2=i * 2+1+1:=oM
   have p:gV (f::l.take i)= hE f.1:: hE f.2::gV (l.take i):=rfl;rw[c6,p,q i,h,j];rfl
theorem xM (l:List Kv) (i:Nat):gV (l.drop i)=(gV l).drop (i * 2):=by
 induction l generalizing i with
 | nil=>simp[gV]
 | cons f l p=>
  cases i with
  | zero=>simp
  | succ i=>
   have h:gV (f::l)= hE f.1:: hE f.2::gV l:=rfl;have j:(i+1) * 2=i * 2+1+1:=oM
   rw[dw,p i,h,j];rfl
theorem Kl (gM:Nat) (x:Kv) (t:AT) (w:cS) (h:h9 gM w t) (aS:t.fp.Nodup) (bj:t.gC=[]) (V:t.ps.length<=3) (aM:jZ t.ps) (b0:gM<=w.heap.size):
  dz cz 120 #[t.ptr,tW x] w (ud gM x t w):=by
 obtain⟨b,pv,kv,ps,cn,page⟩:=t;simp only[AT.gC,AT.ps] at bj V aM;subst bj;obtain⟨p,B⟩:=x;have ag:=h.hx;have ax:=h.hp;have aR:=h.hk;have ar:=h.hb;simp only[AT.b,AT.pv,AT.kv,AT.ps,AT.gC,AT.page,eh] at ag ax aR ar;simp only[AT.ptr,AT.b];obtain⟨b9,aL⟩:=nM (ud gM (p,B) (.mk b pv kv ps [] page) w);rw[aL];have aF:=gF aL;have bi:jB (p,B) (AT.mk b pv kv ps [] page).nd.er=jA (kR (iN ps (p,B))):=by rw[vZ (by rw[Nd.jN,AT.gT];rfl),Nd.od,AT.jb];rfl
 have D:=Ez (p,B) aM;have ab:(b::(pv.ownBlock.toList++(kv.ownBlock.toList++AT.iO []))).Nodup:=by rw[AT.fp] at aS;exact aS
 have aO:pv.ownBlock≠cw b:=fun e=>by have:=(dh.1 ab).1;rw[e] at this;simp at this
 have bd:kv.ownBlock≠cw b:=fun e=>by have:=(dh.1 ab).1;rw[e] at this;simp at this
 have az: ∀g,pv.ownBlock=cw g->kv.ownBlock≠cw g:=fun g e bQ=>by have:=(dk.1 (dh.1 ab).2).2.2 g (by rw[e];simp) g (by rw[bQ];simp);exact this rfl
 obtain⟨j,Y⟩:=nM (jM ps p);obtain⟨bS,T⟩:=nM (jR ps p);have ap:c4 w.heap.size w (w.alloc (hF #[hE p, hE B] 77)):=Below.one _ _;have aP:=Bf gM b cM pv kv page ps p _ (ag.gD ap) (ax.ia ap) aM oM;rw[Y,T] at aP;rw[Y] at D;simp only at D;rw[T] at D;have a0:=gF aP;have U:=gF bi;obtain⟨N,bX⟩:=nM w.heap.size;obtain⟨C,G⟩:=ag.c2;have cp:b<N:=oM
 unfold gX at C;have aG:=gF (gK ag (gK ax aR));have bE:=Bx.new w #[hE p, hE B] 77;have a4:=gF bE;have bH:=gF h;clear aL bi aS aP h bE ag ax aR;go_enter func120,ntmps120;go_wp2_with fail;refine a0.o.mono ?_;rintro e aH ⟨rfl,aN⟩;have W:=iq ap aN;have aW:=aG.o.1.gD W;have aj:=aG.o.2.1.ia W;have bq:=aG.o.2.2.ia W;have bF:=a4.o.gD aN;rw[bX] at bF;clear C G ap aN a0 a4;obtain⟨C,G⟩:=aW.c2;unfold gX at C;obtain⟨bP,b7⟩:=bF.c2;cases bS with
 | true=>
  rw[if_pos rfl] at D;have aJ:j<ps.length:=by unfold jR at T;rw[Y] at T;have:=of_decide_eq_true T;rcases eI j ps.length with h|h;exact h;rw[eJ oM] at this;cases this
  obtain⟨g,c,rfl,a6,a7,b4,b1⟩:=vO aj aJ;have aQ:=(aj.lt g b1).2;have J:=gF D;have E:=gF aJ;obtain⟨n,aw⟩:=nM ps.length;rw[aw] at C aJ b4;clear Y T D;go_wp2;have aI:=jv.cells aH;refine pS 7 1 #[cM,cM,cM,cM,cM,cM,cM,cB] (fun i=>if i=1 then cw (iw (.pointer (cw ⟨b,0,cx⟩))) else cx) oP oO oO oP ?_;simp only[c6,dQ];refine LW.b 1 1 ?_;simp only[jC];repeat (go_big_quiet_step (fail))
  refine dn ?_;refine LW.z ?_ ?_;intro aX _;exact pC oO;intro _;simp only[cy,gU]
  (try simp only[iw])
  refine LW.b 5 7 ?_;simp only[jC];repeat (go_big_quiet_step (fail))
  refine dn ?_;refine LW.done ?_;intro F R;have q:=R.below;have ad:=iq W q;have ak:=aW.gD q;have I:=aj.ia q;have ai:=bq.ia q;have b':F.cell? ⟨g,j * 2,cx⟩=cw (hE ps[j].1):=by rw[q.cell aQ];exact a6
  have ca:F.cell? ⟨g,j * 2+1,cx⟩=cw (hE ps[j].2):=by rw[q.cell aQ];exact a7
  have cb:=I.free (j * 2);have cc:=I.free (j * 2+1);have co:g<F.heap.size:=iU aQ q.size;have ae:g≠b:=fun e=>aO (by rw[e];rfl);have bI:Hid (sB gM w ((F.setCell ⟨g,j * 2,cx⟩ (hE p)).setCell ⟨g,j * 2+1,cx⟩ (hE B)) (.mk b (hA (cw ⟨g,0,cx⟩) ps.length c) kv ps [] page) (.mk b (hA (cw ⟨g,0,cx⟩) ps.length c) kv (ps.set j (p,B)) [] page)):=gF (by
   refine⟨rfl,?_,by rw[AT.fp];exact ab,fun y f=> .inl (by rw[AT.fp] at f |-; exact f),?_⟩;.
    refine .mk _ _ _ _ _ _ ar ?_ ?_ ?_ (fun _ h=>by cases h);. exact(ak.jc (a:=⟨g,j * 2,cx⟩) (fun e=>ae e.symm) _).jc (a:=⟨g,j * 2+1,cx⟩) (fun e=>ae e.symm) _
    . rw[du,Ki E.o];exact I.Bo E.o _ _
    . refine ai.same fun y f=>?_;have bp:y≠g:=fun e=>az g rfl (by rw[<-e];exact f);exact(cY _ ⟨g,j * 2+1,cx⟩ _ y bp).trans (cY _ ⟨g,j * 2,cx⟩ _ y bp)
   .
    have bg:g∈(AT.mk b (hA (cw ⟨g,0,cx⟩) ps.length c) kv ps [] page).fp:=by rw[AT.fp];simp[c5]
    exact(((gS.refl _ w).ic ad).set (b:=g) (k:=j * 2) bg).set (b:=g) (k:=j * 2+1) bg)
  clear R aI q C G a6 a7 ak I ai az;refine iG 7 fun K hK=>?_;go_simp;refine hK _ _ ?_;clear hK K;refine kS ?_;go_wp2;rw[<-aF.o];refine⟨_,cx,rfl,bI.o,?_,?_,fun bA af=>by cases af⟩;rw[U.o,J.o,wa (by rw[du];exact V),Nd.jJ,AT.jb,AT.gT];rfl;rw[U.o,J.o,wa (by rw[du];exact V)];rfl
 | false=>
  rw[if_neg oF] at D;have aK:j<=ps.length:=by rw[<-Y];exact ze _ _
  obtain⟨l,aA⟩:=nM (ps.take j++(p,B)::ps.drop j);have am:Hid (l.length=ps.length+1):=gF (by rw[<-aA];exact Kk _ aK _);have bM:Hid (gV l=(gV ps).take (j * 2)++[hE p, hE B]++(gV ps).drop (j * 2)):=gF (by rw[<-aA];exact Kj _ _ _);rw[aA] at D;have J:=gF D;obtain⟨n,aw⟩:=nM ps.length;have E:=gF aw;have a2:Hid (∀y∈(AT.mk b pv kv ps [] page).fp,y<w.heap.size):=gF (by
   intro y f;exact((bH.o.lt y f).2))
  have bK:=gF aK;clear Y T D aA aw aK;go_wp2;have aI:=jv.cells aH;refine Bn oP (.tmp 0) (.pointer (cw ⟨b,0,cx⟩)) rfl rfl rfl oP oP oP (fun _ _ _ h=>h) ?_;simp only[cy,gU];refine Bl (W0:=aH) 1 8 4 #[cM,cM,cM,cM,cM,cM,cM,cM,cB,cB,cB,cB] (fun i=>if i=2 then cw (iw (.pointer (cw ⟨b,0,cx⟩))) else if i=7 then cw (p8 1 [hE p, hE B] 77) else cx) oO oF oO oO oP (cW _ _).drew ?_;simp only[dw,List.drop_zero,c6,dQ];refine LW.b 1 2 ?_;simp only[jC];repeat (go_big_quiet_step (fail))
  refine dn ?_;refine LW.z ?_ ?_;intro aX _;exact pC oO;intro _;simp only[cy,gU]
  (try simp only[iw])
  refine LW.b 4 7 ?_;simp only[jC];repeat (go_big_quiet_step (fail))
  refine dn ?_;refine LW.z ?_ ?_;. intro aX cg;unfold ix;go_simp;exact⟨Below.one _ _,fun _=>undef,rfl,fun cu bY=>(Bx.new aX.w _ _).gD bY⟩
  intro aC;simp only[cy,gU];refine LW.done ?_;intro F R;have a9:Bx F aC.lo #[hE p, hE B] 77:=R.get 7 rfl rfl;have b8:=(R.range 7 aC rfl).1;have q:=R.below;have ad:=iq W q;have ak:=aW.gD q;have I:=aj.ia q;have ai:=bq.ia q;have bk:pv.ownBlock≠cw aC.lo:=fun e=>by have:=(aj.lt _ e).2;omega
  have bc:gM<=F.heap.size:=by have:=ad.size;omega
  have bL:=gF az;have bh:=J5 gM pv ps.length (gV ps) F I j bK.o aC.lo [hE p, hE B] rfl a9 bk (tT _) (by intro cr bo;simp at bo;rcases bo with rfl|rfl<;>rfl) oM bc
  have a1:=gF bh;have M:=gF (gK ak (gK I (gK ai ad)));simp only[p8];clear R aI q C G ad ak I ai bh az;refine iG 8 fun K hK=>?_;go_simp;refine a1.o.mono ?_;rintro e H ⟨cs,rfl,ay,au,aU⟩;refine hK _ _ ?_;clear hK K;simp only[gU];rw[<-bM.o,E.o] at ay;obtain⟨gv,u,rfl,cj,b3,ck,cl⟩:=ay.pos (Nat.succ_pos _);have ae:gv≠b:=fun e=>by
   rcases aU with h|h;exact aO (by rw[<-h, <-e];rfl);have a8:gv=F.heap.size:=by simpa[c5] using h
   have:=M.o.1.lt;omega
  have aD:=M.o.1.grown au fun e=>aO e.symm;have br:=M.o.2.2.1.same fun y f=>au.block y (M.o.2.2.1.lt y f).2 fun e=>bL.o y e.symm f;have aY:Hid (gS (AT.mk b pv kv ps [] page).fp w H):=gF (((gS.refl _ w).ic M.o.2.2.2).pG au fun cq b5=> .inl (by rw[AT.fp,b5];simp));have a3:Hid ((eH (cw ⟨gv,0,cx⟩) (n+1) u).ownBlock=pv.ownBlock\/ ∃a5,w.heap.size<=a5/\(eH (cw ⟨gv,0,cx⟩) (n+1) u).ownBlock=cw a5):=gF (by
   rcases aU with h|h;. exact .inl h
   . exact .inr ⟨_,M.o.2.2.2.size,h⟩)
  have bO:H.cell? ⟨b,1,cx⟩=cw pv:=by rw[aD.cell];rfl
  have bR:H.frozen? ⟨b,1,cx⟩=false:=aD.free 1;have bB:Bx (H.setCell ⟨b,1,cx⟩ (hA (cw ⟨gv,0,cx⟩) (n+1) u)) b (gX cM (hA (cw ⟨gv,0,cx⟩) (n+1) u) kv page) 129:=aD.set 1 _;have bw:gW (H.setCell ⟨b,1,cx⟩ (hA (cw ⟨gv,0,cx⟩) (n+1) u)) gM 77 2 (hA (cw ⟨gv,0,cx⟩) (n+1) u) (n+1) (gV l):=ay.same fun y f=>by
   have ah:gv=y:=by simpa[c5] using f
   subst ah;exact cY _ ⟨b,1,cx⟩ _ _ ae
  have bs:gW (H.setCell ⟨b,1,cx⟩ (hA (cw ⟨gv,0,cx⟩) (n+1) u)) gM 88 1 kv 0 []:=br.same fun y f=>by have aV:y≠b:=fun e=>bd (by rw[<-e];exact f);exact cY _ ⟨b,1,cx⟩ _ _ aV
  have al:Hid (gS (AT.mk b pv kv ps [] page).fp w (H.setCell ⟨b,1,cx⟩ (hA (cw ⟨gv,0,cx⟩) (n+1) u))):=gF (aY.o.set (by rw[AT.fp];simp));have r:=gF (gK bB (gK bw bs));clear bB bw bs aU au ay br aD aY;refine iG 9 fun K hK=>?_;go_simp;refine hK _ _ ?_;clear hK K;refine iG 10 fun K hK=>?_;go_simp;refine hK _ _ ?_;clear hK K;refine iG 11 fun K hK=>?_;go_simp;refine hK _ _ ?_;clear hK K;refine kS ?_;generalize H.setCell ⟨b,1,cx⟩ (hA (cw ⟨gv,0,cx⟩) (n+1) u)=W4 at *;clear bO bR b3 a9 b8 bk bc bP b7 W a1 M;obtain⟨C,G⟩:=r.o.1.c2;unfold gX at C
  by_cases bn:n+1<=3
  . go_wp2;rw[<-aF.o];have Z:=zi ab a2.o ar r.o.1 (by rw[am.o,E.o];exact r.o.2.1) r.o.2.2 a3.o al.o;refine⟨_,cx,rfl,Z,?_,?_,fun bA af=>by cases af⟩;rw[U.o,J.o,wa (by rw[am.o,E.o];exact bn),Nd.jJ,AT.jb,AT.gT];rfl;rw[U.o,J.o,wa (by rw[am.o,E.o];exact bn)];rfl
  obtain rfl:n=3:=by have:=E.o;omega
  have cf:u≠2:=oM
  have ac:Hid (l.length=4):=gF (by rw[am.o,E.o]);have be:(gV (l.drop 2)).length=2 * 2:=by rw[uJ,cJ,ac.o]
  have bm:gO (fun g=>(eH (cw ⟨gv,0,cx⟩) (3+1) u).ownBlock=cw g) W4 (cw ⟨gv,4,cx⟩) (gV (l.drop 2)):=by
   obtain⟨o,c,a8,-,bU⟩:=r.o.2.1.at;obtain⟨rfl,rfl⟩:cw ⟨gv,0,cx⟩=o/\u=c:=by simpa using a8
   have V:=bU.cut 4 4;rw[show(gV l).drop 4=gV (l.drop 2) from (xM l 2).symm,dj (by rw[be];exact cL _)] at V;exact V
  have aZ:=gF (Bi W4 ⟨gv,4,cx⟩ 2 (u - 2) (gV (l.drop 2)) be bm (tT _) oF);clear bm;go_wp2_with fail;refine aZ.o.mono ?_;rintro e s ⟨ct,rfl,bl,aa⟩;clear aZ C G;obtain⟨g5,O,rfl,ch,ci,-,-⟩:=(gW.own bl).pos oF;have aE:=r.o.1.gD aa;obtain⟨C,G⟩:=aE.c2;unfold gX at C;have cd:(s.alloc (hF #[.bool cM, hA (cw ⟨g5,0,cx⟩) 2 O, hA cx 0 0, gE ha 0] 129)).frozen? ⟨b,1,cx⟩=false:=(aE.alloc _).free 1;have bZ:b<s.heap.size:=G;have b2:gv<s.heap.size:=iU ((r.o.2.1.lt gv rfl).2) aa.size;have aT:=aa.size;obtain⟨W6,aq⟩:=nM (s.alloc (hF #[.bool cM, hA (cw ⟨g5,0,cx⟩) 2 O, hA cx 0 0, gE ha 0] 129));have X:c4 s.heap.size s W6:=by rw[<-aq];exact Below.one _ _
  have bb:Bx W6 s.heap.size #[.bool cM, hA (cw ⟨g5,0,cx⟩) 2 O, hA cx 0 0, gE ha 0] 129:=by rw[<-aq];exact Bx.new s _ _
  have bC:=aE.gD X;have bx:=(r.o.2.1.ia aa).ia X;have bt:=(r.o.2.2.ia aa).ia X;have bv:=(gW.own (qL bl (jU b0 al.o.2.2.2.1))).ia X;have a':=(al.o.ic aa).ic X;have av: ∀y∈(AT.mk b (hA (cw ⟨gv,0,cx⟩) 2 2) kv (l.take 2) [] page).fp,y<W4.heap.size:=by
   intro y f;rw[AT.fp] at f;rcases j4.1 f with h|h;rw[h];exact r.o.1.lt;rcases jD.1 h with h|h;have bT:y=gv:=by simpa[c5] using h
   rw[bT];exact(r.o.2.1.lt gv rfl).2;rcases jD.1 h with h|h;exact(r.o.2.2.lt y (by simpa using h)).2;simp[AT.iO] at h
  have bW:s.heap.size≠b:=fun e=>oM
  have bV:g5≠b:=fun e=>by have:=r.o.1.lt;omega
  have bD:Bx (W6.setCell ⟨b,1,cx⟩ (hA (cw ⟨gv,0,cx⟩) 2 2)) b (gX cM (hA (cw ⟨gv,0,cx⟩) 2 2) kv page) 129:=bC.set 1 _;have bz:gW (W6.setCell ⟨b,1,cx⟩ (hA (cw ⟨gv,0,cx⟩) 2 2)) gM 77 2 (hA (cw ⟨gv,0,cx⟩) 2 2) (l.take 2).length (gV (l.take 2)):=by
   rw[show(l.take 2).length=2 by rw[cG,ac.o];rfl,xL];refine(bx.cut (m:=2) oF).same fun y f=>?_;have ah:gv=y:=by simpa[c5] using f
   subst ah;exact cY _ ⟨b,1,cx⟩ _ _ ae
  have bu:gW (W6.setCell ⟨b,1,cx⟩ (hA (cw ⟨gv,0,cx⟩) 2 2)) gM 88 1 kv 0 []:=bt.same fun y f=>by have aV:y≠b:=fun e=>bd (by rw[<-e];exact f);exact cY _ ⟨b,1,cx⟩ _ _ aV
  have aB:gW (W6.setCell ⟨b,1,cx⟩ (hA (cw ⟨gv,0,cx⟩) 2 2)) gM 77 2 (hA (cw ⟨g5,0,cx⟩) 2 O) (l.drop 2).length (gV (l.drop 2)):=by
   rw[show(l.drop 2).length=2 by rw[cJ,ac.o]];refine bv.same fun y f=>?_;have ah:g5=y:=by simpa[c5] using f
   subst ah;exact cY _ ⟨b,1,cx⟩ _ _ bV
  have ao:Bx (W6.setCell ⟨b,1,cx⟩ (hA (cw ⟨gv,0,cx⟩) 2 2)) s.heap.size (gX cM (hA (cw ⟨g5,0,cx⟩) 2 O) (hA cx 0 0) 0) 129:=bb.jc (a:=⟨b,1,cx⟩) bW _;have ba:gS (AT.mk b pv kv ps [] page).fp w (W6.setCell ⟨b,1,cx⟩ (hA (cw ⟨gv,0,cx⟩) 2 2)):=a'.set (by rw[AT.fp];simp);have Z:=zi ab a2.o ar bD bz bu a3.o ba;have cm:w.heap.size<=W4.heap.size:=al.o.2.2.2.1;have bG:=gF (gK Z (gK ao (gK aB av)));have bJ:=gF aq;have bN:=gF aT;clear bC bx bt bv a' av bD bz bu aB ao ba Z bb X aq aT b2 bZ aE;go_wp2;rw[<-World.setCell_alloc_past _ _ _ _ G,bJ.o, <-aF.o];have aT:=bN.o;obtain⟨Z,ao,aB,av⟩:=bG.o;refine⟨_,cw (.mk s.heap.size (hA (cw ⟨g5,0,cx⟩) 2 O) (hA cx 0 0) (l.drop 2) [] 0),rfl,Z,?_,?_,?_⟩;rw[U.o,J.o,xK (by rw[ac.o];decide),Nd.jJ,AT.jb,AT.gT];rfl;rw[U.o,J.o,xK (by rw[ac.o];decide)];simp only[eT];rw[Nd.jJ,AT.jb,AT.gT];rfl;intro bA af;cases af;have bf: ∀y∈(AT.mk s.heap.size (hA (cw ⟨g5,0,cx⟩) 2 O) (hA cx 0 0) (l.drop 2) [] 0).fp,y=s.heap.size\/y=g5:=by intro y f;rw[AT.fp] at f;simpa[c5,AT.iO] using f
  refine⟨.mk _ _ _ _ _ _ oM ao aB ⟨rfl, .inl ⟨rfl,rfl⟩⟩ (fun _ h=>by cases h),?_,?_,?_⟩;rw[AT.fp];simp[c5,AT.iO];omega;. intro y f;rcases bf y f with h|h<;>right<;>omega
  intro y f b6;have ce:=av y b6;rcases bf y f with h|h<;>omega
theorem sO (a b:List AT):AT.iO (a++b)=AT.iO a++AT.iO b:=by
 simp[AT.oD]
theorem sD (c:AT) (l:List AT):AT.iO (c::l)=c.fp++AT.iO l:=rfl
theorem pN {P K:List Nat}:(b::(P++(K++L))).Nodup↔(P.Nodup/\K.Nodup/\L.Nodup)/\(b∉P/\b∉K/\b∉L)/\(∀x∈P,x∉K)/\(∀x∈P,x∉L)/\(∀x∈K,x∉L):=by
 simp only[dh,dk,jD,not_or];constructor;rintro⟨⟨p,q,r⟩,s,⟨t,u,y⟩,l⟩;exact⟨⟨s,t,u⟩,⟨p,q,r⟩,fun x f j=>l x f x (.inl j) rfl,fun x f j=>l x f x (.inr j) rfl,fun x f j=>y x f x j rfl⟩;rintro⟨⟨s,t,u⟩,⟨p,q,r⟩,y,l,z⟩;refine⟨⟨p,q,r⟩,s,⟨t,u,fun x f B h e=>z x f (e▸h)⟩,fun x f B h e=>?_⟩;subst e;rcases h with h|h;exact y x f h;exact l x f h
theorem Bp {l1 l2 X:List AT} {c:AT} {z:Nat} (s:(AT.iO (l1++c::l2)).Nodup) (q: ∀y∈AT.iO (l1++c::l2),y<z) (B:(AT.iO X).Nodup) (p: ∀y∈AT.iO X,y∈c.fp\/z<=y):
  (AT.iO (l1++(X++l2))).Nodup/\ ∀y∈AT.iO (l1++(X++l2)),y∈AT.iO (l1++c::l2)\/z<=y:=by
 simp only[sO,sD,dk,jD] at s q |-;obtain⟨t,⟨C,u,x⟩,r⟩:=s;refine⟨⟨t,⟨B,u,?_⟩,?_⟩,?_⟩;intro j l y h e;rcases p j l with f|f;exact x j f y h e;have:=q y (.inr (.inr h));omega;intro j l y h e;rcases h with h|h;rcases p y h with f|f;exact r j l y (.inl f) e;have:=q j (.inl l);omega;exact r j l y (.inr h) e;intro y h;rcases h with f|f|f;exact .inl (.inl f);rcases p y f with f|f;exact .inl (.inr (.inl f));exact .inr f;exact .inl (.inr (.inr f))
theorem xO {qz:cN} {gC ke:List AT} (z:(AT.mk b pv kv ps gC page).fp.Nodup) (s: ∀y∈(AT.mk b pv kv ps gC page).fp,y<w.heap.size) (G:gM<=b) (Z:ke≠[])
  (h:Bx A b (gX cB pv qz page) 129) (T:gW A gM 77 2 pv ps.length (gV ps)) (N:gW A gM 88 1 qz ke.length (ke.map AT.ptr)) (I: ∀c∈ke,h9 gM A c)
  (p:qz.ownBlock=kv.ownBlock\/ ∃M,w.heap.size<=M/\qz.ownBlock=cw M/\M∉AT.iO ke) (O:(AT.iO ke).Nodup) (l: ∀y∈AT.iO ke,y∈AT.iO gC\/w.heap.size<=y)
  (hK:gS (AT.mk b pv kv ps gC page).fp w A):sB gM w A (.mk b pv kv ps gC page) (.mk b pv qz ps ke page):=by
 have J:ke.isEmpty=false:=by cases ke<;>simp_all
 have Y:=s b (by rw[AT.fp];simp);rw[AT.fp] at z;obtain⟨⟨X,aa,ab⟩,⟨U,V,W⟩,B,C,D⟩:=pN.1 z;have x: ∀y∈pv.ownBlock.toList,y<w.heap.size:=fun y u=>s y (by rw[AT.fp];exact cP _ (da _ u));have E: ∀y∈kv.ownBlock.toList,y<w.heap.size:=fun y u=>s y (by rw[AT.fp];exact cP _ (cV _ (da _ u)));refine⟨rfl, .mk _ _ _ _ _ _ G (by rw[J];exact h) T N I,?_,?_,hK⟩;.
  rw[AT.fp];have H:b∉AT.iO ke:=fun f=>by rcases l b f with f|f;exact W f;omega
  have F: ∀j∈pv.ownBlock.toList,j∉AT.iO ke:=fun j h f=>by rcases l j f with f|f;exact C j h f;have:=x j h;omega
  refine pN.2 ⟨⟨X,?_,O⟩,⟨U,?_,H⟩,?_,F,?_⟩;. cases qz.ownBlock<;>simp
  rcases p with f|⟨M,r,f,t⟩;rw[f];exact V;rw[f];simp;omega;rcases p with f|⟨M,r,f,t⟩;rw[f];exact B;rw[f];intro j h;have:=x j h;simp;omega;rcases p with f|⟨M,r,f,t⟩;rw[f];intro j h R;rcases l j R with f|f;exact D j h f;have:=E j h;omega;rw[f];intro j h;simp at h;rw[h];exact t
 intro j h;rw[AT.fp] at h |-;rcases j4.1 h with f|f;exact .inl (by rw[f];simp);rcases jD.1 f with f|f;exact .inl (cP _ (da _ f));rcases jD.1 f with f|f;rcases p with q|⟨M,r,q,_⟩;rw[q] at f;exact .inl (cP _ (cV _ (da _ f)));rw[q] at f;simp at f;exact .inr oM;rcases l j f with f|f;exact .inl (cP _ (cV _ (cV _ f)));exact .inr f
theorem gW.iE {w':cS} (h:gW w gM e k v n xs) (hK:gS L w w') (j: ∀g,v.ownBlock=cw g->g∉L):gW w' gM e k v n xs:=
 h.same fun g f=>hK.2.2.2.2 g (h.lt g f).2 (j g f)
theorem Bq (l:List AT) (h:i<l.length):l=l.take i++l[i]::l.drop (i+1):=by
 rw[List.getElem_cons_drop,List.take_append_drop]
theorem wZ {l:List Nd} (f:l≠[]) (h:l.length<=8):jA (kt l)=(kt l,cx):=by
 unfold jA;rw[if_neg (show¬(kt l).gC=[] from f),if_neg (show¬8<(kt l).gC.length by show¬8<l.length;omega)]
theorem zj {l:List Nd} (f:l≠[]) (h:8<l.length):jA (kt l)=(kt (l.take 5),cw (kt (l.drop 5))):=by
 unfold jA;rw[if_neg (show¬(kt l).gC=[] from f),if_pos (show 8<(kt l).gC.length from h)];rfl
theorem jZ.kid {n:Nd} (h:jZ n.iv) {k:Nd} (f:k∈n.gC):jZ k.iv:=by
 have j:n.gC≠[]:=List.ne_nil_of_mem f;rw[Nd.iu j] at h;refine h.sub ?_;exact(en (dx.2 ⟨k,f,rfl⟩))
end Go.Proofs.YtlefmmhlpgmbjaaGreat
