import Derived.Test.YtlefmmhlpgmbjaaGreatR07
open List renaming mem_map->cu,replicate->cv,map_cons->cw,flatten_cons->cz,append_assoc->cA,getElem?_eq_getElem->cE,take_of_length_le->cG,mem_flatten->cH,mem_append_left->cK,sublist_flatten_of_mem->cN,length_map->cS,getElem?_take->cT,getD->cU,size_toArray->cW,getElem?_eq_none->cX,nodup_cons->cZ,nil_append->c0,nodup_nil->c5,nodup_append->c7,getElem?_cons_zero->c8,cons_append->c9,all_eq_true->da,length_nil->dd,foldl_cons->de,mem_append_right->dh,length_replicate->di,getElem?_toArray->dj,mem_range->dn,pairwise_cons->dp,getElem?_drop->dq,find?_eq_none->dr,take_succ_eq_append_getElem->du,ext_getElem?->dv,take_left'->dz,map_append->dA,drop_left'->dB,contains_iff_mem->dJ,mem_cons_of_mem->dL,take_replicate->dN,takeWhile_cons->dO,zip_nil_right->dP,zip_cons_cons->dQ,range->dR,mem_cons_self->dS,find?_append->dU
open ByteArray renaming empty->cx
open Option renaming some->cy,none->cC,map_eq_some_iff->dF,map_eq_none_iff->dG
open Go.Region renaming ready->cB,Mode->df,noSelect->dw,binds->dE
open Option.some renaming injEq->cD,inj->c6
open Prod.mk renaming injEq->cF
open Bool renaming false->cI,true->cQ,and_eq_true->dx,not_eq_eq_eq_not->dK
open UInt8 renaming ofNat->cJ,toNat_ofNat'->cR
open Go renaming World->cL,Value->cV,mem_ready->dk,getD_both->dt,execOp->dH,Operand->dT
open Nat renaming div_eq_of_lt->cM,le_refl->cP,min_eq_left->dD,zero_add->dI,zero_le->dM
open Go.Value renaming string->cO
open Go.Proofs.Tryz renaming prog->cY
open Array renaming getElem?_eq_some_iff->c4,replicate->dy
open Go.RowKit.Below renaming refl->db
open Go.Op renaming bytesLess->dc
open Go.RowKit renaming Below->dm
open List.cons renaming injEq->ds
open Go.Proofs.Tryz
set_option maxRecDepth 100000
set_option maxHeartbeats 4000000
open Go.Value renaming int->gE,slice->ht,string->hA
open Go.IntKind renaming i64->ha
open Go.Obj renaming cells->hE
namespace Go.Proofs.YtlefmmhlpgmbjaaGreat
open Go.RowKit
variable {x:Ix}{l:List ju}{t t':Option Nd}{p q:kq}{D d e:ik}{gI gJ g:Int}{u:List Int}{m n a b:Nd}{o:lJ}{k z v V r:Nat}{ops:List lJ}{s:ByteArray}{C:Int->List UInt8}{ws:List PW}{cs:Array cV}{look:List UInt8->Option Int}{ks:List Nd}
section
variable {P:Program} {ops:Array Oper} {md:df} {W0:cL} {an:kg}
def xV (P:Program) (ops:Array Oper) (md:df) (an:kg) (W0:cL) (n q:Nat) (dl:Array Bool) (L:Array Bool->iz->Act->Prop):Nat->Array Bool->iz->Act->Prop
 | 0,listed,ξ,a=>L listed ξ a
 | f+1,listed,ξ,a=>cB md ops listed≠[]/\(listed≠dl-> ∀i∈cB md ops listed,i<n)/\(listed=dl->q∈cB md ops listed)/\
  ∀i∈cB md ops listed,i<n-> ∀o,ops[i]?=cy o->mm P ops md an W0 i o ξ a (xV P ops md an W0 n q dl L f (listed.setIfInBounds i cQ))
def sT (md:df) (ops:Array Oper) (n q:Nat):Bool:=(dR ops.size).all fun t=>decide (t<n)||(dR n).all fun i=>decide (i=q)||(oT md ops 8 [t]).contains i
structure uW (md:df) (ops:Array Oper) (n:Nat) (listed:Array Bool):Prop extends j2 md ops n listed where
 head: ∀j,n<=j->listed.getD j cI=cI
theorem uW.set {n i:Nat} {listed:Array Bool} (h:uW md ops n listed) (j:i∈cB md ops listed) (B:i<n):uW md ops n (listed.setIfInBounds i cQ):=
 ⟨h.toj2.set j,fun A y=>by rw[getD_set_ne cI oM];exact h.head A y⟩
theorem Lk {n i q:Nat} {dl:Array Bool} {oi:Oper} {S:Option Rec->cV->Prop} {L:Array Bool->iz->Act->Prop} (Y:ops[i]?=cy oi) (ai: ∀(j:Nat) (o:Oper) cs b,ops[j]?=cy o->o.op≠ .select cs b)
  (M:sT md ops n q=cQ) (aa:i<n) (ao:dl.size=ops.size) (ae: ∀j,dl.getD j cI=(decide (j<n)&&decide (j≠q))) (aF:q<n) (ap: ∀listed ξ a,L listed ξ a-> ∀j∈cB md ops listed,n<=j):
  ∀(f:Nat) (listed:Array Bool) (ξ:iz) (a:Act),uW md ops n listed->
   (∀j oj,ops[j]?=cy oj->j≠i->listed.getD j cQ=cI->(∀e∈oj.after,dE md e=cQ->e.on≠i)->oi.apart ops oj=cQ)->
   i∈cB md ops listed->mf P ops md an W0 i oi ξ a S->
   (∀ρ v,S ρ v->xV P ops md an W0 n q dl L f (listed.setIfInBounds i cQ) (nU ξ i ρ) (a.put oi.dst v))->xV P ops md an W0 n q dl L (f+1) listed ξ a:=by
 intro f;have aE: ∀(listed:Array Bool),uW md ops n listed->i∈cB md ops listed-> ∀j∈cB md ops listed,n<=j->i=q/\listed=dl:=by
  intro listed F A j B ah;have aw:j<ops.size:=by obtain⟨_,oj,I,_⟩:=dk.1 B;exact(c4.1 I).1
  have E:=da.1 M j (dn.2 aw);simp only[Bool.or_eq_true,decide_eq_true_eq] at E;have X: ∀k,k<n->k≠q->listed.getD k cI=true:=by intro k J O;rcases E with E|E;omega;have h:=da.1 E k (dn.2 J);simp only[Bool.or_eq_true,decide_eq_true_eq] at h;rcases h with h|h;exact absurd h O;rcases r4 B F.closed h with ad|ad;omega;exact ad
  have af:i=q:=by rcases Nat.decEq i q with y|y;have:=X i aa y;rw[dt (dk.1 A).1] at this;cases this;exact y
  refine⟨af,?_⟩;have key: ∀k,listed.getD k cI=dl.getD k false:=by
   intro k;rw[ae]
   by_cases J:k<n
   .
    by_cases O:k=q
    subst O;subst af;rw[dt (dk.1 A).1];simp;rw[X k J O];simp[J,O]
   rw[F.head k oM];simp[J]
  apply Array.ext;rw[F.size,ao];intro k E h;have:=key k;simpa[Array.getD,E,h] using this
 have only: ∀(listed:Array Bool),listed=dl-> ∀j∈cB md ops listed,j<n->j=q:=by intro listed e j B ah;subst e;rcases Nat.decEq j q with y|y;have al:=(dk.1 B).1;have:=ae j;rw[dt al] at this;simp[ah,y] at this;exact y
 have aj: ∀(listed:Array Bool),uW md ops n listed->i∈cB md ops listed->listed≠dl-> ∀j∈cB md ops listed,j<n:=by intro listed F A ax j B;rcases Nat.lt_or_ge j n with y|y;exact y;exact absurd (aE listed F A j B y).2 ax
 induction f with
 | zero=>
  intro listed ξ a F _ A hy H;refine⟨fun y=>(by rw[y] at A;cases A),aj listed F A,fun e=>by rw[<-only listed e i A aa];exact A,fun j B ab oj I=>?_⟩
  by_cases G:j=i
  subst G;obtain rfl:oj=oi:=c6 (I.symm.trans Y);exact⟨S,hy,H⟩;obtain⟨ρ,v,M⟩:=hy.some;have:=ap _ _ _ (H ρ v M) j (ready_mono B G);omega
 | succ f aD=>
  intro listed ξ a F nb A hy H;refine⟨fun y=>(by rw[y] at A;cases A),aj listed F A,fun e=>by rw[<-only listed e i A aa];exact A,fun j B ab oj I=>?_⟩
  by_cases G:j=i
  subst G;obtain rfl:oj=oi:=c6 (I.symm.trans Y);exact⟨S,hy,H⟩;obtain⟨ac,T,aA,X⟩:=dk.1 B;obtain rfl:T=oj:=c6 (aA.symm.trans I);have R:=(dk.1 A).1;have az: ∀e∈T.after,dE md e=cQ->e.on≠i:=fun e aq am ar=>by have E:=X e aq am;rw[ar,dt R] at E;cases E
  have aB:mH md ops i j=false:=by
   cases y:mH md ops i j with
   | false=>rfl
   | true=>rcases r4 A F.closed y with h|h;exact absurd h G;rw[dt ac] at h;cases h
  have aC:mH md ops j i=false:=by
   cases y:mH md ops j i with
   | false=>rfl
   | true=>rcases r4 B F.closed y with h|h;exact absurd h.symm G;rw[dt R] at h;cases h
  have au: ∀k U,ops[k]?=cy U->k≠i->(listed.setIfInBounds j cQ).getD k cQ=cI->
    (∀e∈U.after,dE md e=cQ->e.on≠i)->oi.apart ops U=true:=fun k U J av R ay=>by
   refine nb k U J av ?_ ay
   by_cases ag:j=k
   . subst ag;exact ac
   . rw[getD_set_ne cQ ag] at R;exact R
  refine(mm.swap (Ne.symm G) (nb j T I G ac az) (fun cs b=>ai i oi cs b Y) (fun cs b=>ai j T cs b I) aB aC hy fun ρ v M=>(H ρ v M).2.2.2 j (ready_mono B G) ab T I).mono ?_;rintro ξ' ak ⟨E,h⟩;refine aD (listed.setIfInBounds j cQ) ξ' ak (F.set B ab) au (ready_mono A (Ne.symm G)) E fun ρ v M=>?_;rw[Array.setIfInBounds_comm _ _ G];exact h ρ v M
theorem E3 {n q:Nat} {i:Array Bool} {A:iz->Act->Prop} (O:dw ops=cQ) (M:sT md ops n q=cQ) (F:i.size=ops.size) (H: ∀j,i.getD j cI=(decide (j<n)&&decide (j≠q))) (J:q<n) (Y:n<=ops.size) (done:Array Bool) (G:(cB md ops done).all (fun j=>decide (n<=j))=cQ):
  ∀(l:List Oper) (k:Nat) (listed:Array Bool) (ξ:iz) (a:Act),(∀j,j<l.length->l[j]?=ops[k+j]?)->k+l.length=n->uW md ops n listed->lr listed l.length k=done->
  rI md ops n l.length k listed=cQ->LW P ops md an W0 A l k ξ a->xV P ops md an W0 n q i (fun R ξ' B=>R=done/\A ξ' B) l.length listed ξ a
 | [],k,listed,ξ,a,_,_,_,hd,_,h=>⟨hd,h⟩
 | o::l,k,listed,ξ,a,hl,hk,inv,hd,hB,h=>by
  have E:ops[k]?=cy o:=by simpa using (hl 0 oC).symm
  simp only[j1,rI,dx] at hB;obtain⟨⟨aa,X⟩,S⟩:=hB;have I:k<n:=by simp only[j1] at hk;omega
  have L:k∈cB md ops listed:=by simpa using aa
  obtain⟨ab,U,hK⟩:=h;refine Lk E (Region.noSelect_spec O) M I F H J (fun R _ B T j y=>?_) l.length listed ξ a inv (Region.free_spec E X) L U fun ρ v hs'=>?_;rw[T.1] at y;exact of_decide_eq_true (da.1 G j y);exact E3 O M F H J Y done G l (k+1) _ _ _ (fun j y=>by have:=hl (j+1) oN;simpa[Nat.add_assoc,Nat.add_comm 1 j] using this) (by simp only[j1] at hk;omega) (inv.set L I) (by simpa[lr] using hd) S (hK ρ v hs')
theorem zw {n q g:Nat} {R:Array Bool} {B:Oper} {L:Array Bool->iz->Act->Prop} {Q':Exit->Act->cL->Prop} (A:ops[q]?=cy B) (M:q<n) (O:dw ops=cQ) (G:Region.free md ops R q=cQ) (I:an q=cC) (H:B.guard=cC)
  (F: ∀c a w v,Q' (.panic c) (a.put B.dst v) w->Q' (.panic c) a w) (J: ∀(ρ:dT->cV) w w' v,(dH ρ B).run P w= .ok (.value v) w->(dH ρ B).run P w'= .ok (.value v) w')
  (E: ∀listed ξ a w,L listed ξ a->Good an W0 ξ w->wpAny P md ops Q' g listed a w):
  ∀(f:Nat) (listed:Array Bool) (ξ:iz) (a:Act) (w:cL),xV P ops md an W0 n q R L f listed ξ a->Good an W0 ξ w->wpAny P md ops Q' (f+g) listed a w
 | 0,listed,ξ,a,w,h,hg=>by rw[dI];exact E _ _ _ _ h hg
 | f+1,listed,ξ,a,w,h,hg=>by
  rw[show f+1+g=(f+g)+1 by omega];obtain⟨af,ag,ah,Y⟩:=h
  by_cases T:listed=R
  .
   have ac:=ah T;obtain⟨ae,S,hK⟩:=Y q ac M B A;cases S with
   | skip j=>unfold Region.wanted at j;rw[H] at j;cases j
   | quiet v j y X=>refine wpAny_take (i:=q) (v:=v) A O (by rw[T];exact G) (by simpa using ac) (fun c a w=>F c a w v) (.inl ⟨j,fun w'=>J _ w w' v (X w ⟨⟨w,hg.below⟩,rfl⟩)⟩) ?_;exact zw A M O G I H F J E f _ _ _ _ (hK cC v ⟨rfl,rfl⟩) hg
   | mC ad j y aa=>rw[I] at y;cases y
  refine⟨fun h=>absurd h af,fun i U=>?_⟩;obtain⟨_,al,ab,_⟩:=dk.1 U;obtain⟨ae,S,hK⟩:=Y i U (ag T i U) al ab;unfold wpOp;simp only[ab];cases S with
  | skip j=>rw[if_neg (by rw[j];exact Bool.false_ne_true)];exact zw A M O G I H F J E f _ _ _ _ (hK cC undef ⟨rfl,rfl⟩) hg
  | quiet v j y X=>rw[if_pos j];left;unfold Oper.wp;rw[X w ⟨⟨w,hg.below⟩,rfl⟩];exact zw A M O G I H F J E f _ _ _ _ (hK cC v ⟨rfl,rfl⟩) hg
  | mC ad j y aa=>rw[if_pos j];left;refine AJ (aa w hg.below fun ak _=>hg.fact ak) ?_;rintro v w' ⟨ai,x,rfl,aj⟩;exact zw A M O G I H F J E f _ _ _ _ (hK _ _ ⟨_,rfl,rfl⟩) (hg.add ai y aj)
def E4 (md:df) (ops:Array Oper) (n q:Nat) (dl:Array Bool):Bool:=dw ops&&sT md ops n q&&rI md ops n n 0 (dy ops.size cI)&&Region.free md ops dl q&&decide (dl.size=ops.size)&&decide (q<n)&&decide (n<=ops.size)&&((dR ops.size).all fun j=>dl.getD j cI==(decide (j<n)&&decide (j≠q)))
theorem sf {id:Nat} {Q:Exit->Act->cL->Prop} {a:Act} {w:cL} {l:List Oper} (n q g:Nat) (A done:Array Bool) (an:kg) (y:Oper) (ab:P.follows .mixedOrders=cQ) (ae:l.toArray[q]?=cy y) (I:l.length=n+g) (R:lr (dy l.length cI) n 0=done) (F:E4 .any l.toArray n q A=cQ)
  (ad:an q=cC) (Y:y.guard=cC) (M: ∀c a w v,Q (.panic c) (a.put y.dst v) w->Q (.panic c) a w) (af: ∀(ρ:dT->cV) w w' v,(dH ρ y).run P w= .ok (.value v) w->(dH ρ y).run P w'= .ok (.value v) w')
  (h:LW P l.toArray .any an w (fun ξ a'=> ∀w',Good an w ξ w'->wpAny P .any l.toArray Q g done a' w') (l.take n) 0 (fun _=>cC) a):(Code.region id l.toArray cQ).wp P Q a w:=by
 simp only[E4,dx,decide_eq_true_eq] at F;obtain⟨⟨⟨⟨⟨⟨⟨L,ag⟩,H⟩,X⟩,S⟩,J⟩,ac⟩,O⟩:=F;have U: ∀i,A.getD i cI=(decide (i<n)&&decide (i≠q)):=by
  intro i
  by_cases B:i<l.toArray.size
  have:=da.1 O i (dn.2 B);simpa using this;have:A.getD i cI=false:=by simp[Array.getD,show¬i<A.size by omega]
  rw[this]
  simp;omega
 have j:(l.take n).length=n:=oN
 have ah:uW .any l.toArray n (dy l.toArray.size cI):=⟨⟨oC,fun i ai _ G=>(by rw[getD_replicate_false] at G;cases G)⟩,fun i _=>getD_replicate_false _ _⟩;have T:=xz _ _ _ H;have E:=E3 (md:= .any) L ag S U J ac _ T (l.take n) 0 _ _ a (fun i B=>by
  have aa:i<n:=by rw[j] at B;exact B
  simp[aa]) (by simpa using j) ah (by rw[j]) (by rw[j];exact H) h
 refine wp_region_any ab ?_;simp only[cW] at E;have:=zw (g:=g) (Q':=Q) (w:={ w with drawn:=w.drawn+1 }) ae J L X ad Y M af (fun listed ξ a' w' hL hg=>?_) _ _ _ _ E (Good.start an ((db _ w).drew));rw[j] at this;rw[cW,I];simpa[I] using this;rw[hL.1,R];exact hL.2 w' hg
theorem sg {o:Oper} (x:dT) (k:Nat) (h:o.op= .extract x k) (ρ:dT->cV) (w w':cL) (v:cV) (i:(dH ρ o).run P w= .ok (.value v) w):(dH ρ o).run P w'= .ok (.value v) w':=by
 unfold dH at i |-;rw[h] at i |-;dsimp only at i |-;rw[Sem.run_bind] at i |-;cases y:ρ x with
 | tuple A=>
  rw[y] at i;unfold Instr.extract at i |-;cases j:A[k]? with
  | none=>simp[j,Result.andThen] at i
  | some u=>
   simp only[j,Sem.run_pure,Result.andThen_ok] at i |-;injection i with h1 _
   rw[h1]
 | _=>rw[y] at i;unfold Instr.extract at i;simp[Result.andThen] at i
end
def og (t:Option Nd) (c:ju):Bool:=((o5 t c.key).2 !=c.lz)||decide ((o5 t c.key).1≠c.old)
def sU:Option Nd->ByteArray->Option Int
 | none=>fun _=>cC
 | some n=>lW (fun _=>cC) n.pre
def kO (x:Ix) (t:Option Nd) (l:List ju):Option (Option Nd×kq):=
 match l.foldl j6 (t.map Nd.er) with
 | none=>cy (cC,⟨x.free,[]⟩)
 | some n=>(l7 (fun s=>sU t (bs s)) n ⟨x.free,[]⟩).map fun y=>(cy y.1,y.2)
def lN (x:Ix) (l:List ju):Ix×Int:=
 match mz x with
 | none=>(iY,1)
 | some t=>
  if iD cC l≠0 then (iY,iD cC l)
  else if l.any (og t) then (iY,15)
  else if l=[] then (x,0)
  else match kO x t l with
   | none=>(iY,17)
   | some (n,p)=>
    if x.gZ=1099511627776 then (iY,17)
    else if (gR x.gL (n5 x p.ws (iA n))).2≠0 then ({ x with gL:=(gR x.gL (n5 x p.ws (iA n))).1 },(gR x.gL (n5 x p.ws (iA n))).2)
    else (⟨(gR x.gL (n5 x p.ws (iA n))).1,x.gI,x.gJ,x.gZ+1,iA n,mv x.gI x.gJ (lh n)⟩,0)
theorem E5 (d:ik): ∀(a b:List lJ),gR d (a++b)=if (gR d a).2≠0 then gR d a else gR (gR d a).1 b:=by
 intro a
 induction a generalizing d with
 | nil=>intro b;simp[gR]
 | cons o a i=>
  intro b;rw[c9,gR,gR]
  by_cases h:(mZ d o).2≠0
  rw[if_pos h,if_pos h,if_pos h];rw[if_neg h,if_neg h,i]
theorem zx (look:List UInt8->Option Int): ∀(n:Nd) (p:kq),l7 look n.er p=l7 look n p:=by
 intro n
 induction n using Nd.ind with
 | h E A B j=>
  intro p;have hK: ∀(l:List Nd) (p:kq),(∀k∈l,∀p,l7 look k.er p=l7 look k p)->lB look (l.map Nd.er) p=lB look l p:=by
   intro l
   induction l with
   | nil=>intro p _;rfl
   | cons k l y=>intro p h;rw[cw,lB,lB,h k oC];split;rfl;rw[y _ fun x i=>h x (by simp[i])]
  rw[sF,sF,Nd.jN,Nd.od];simp only[Nd.gC,Nd.ps];rw[hK A p j]
def oV (w:cL) (r:Ix×Int) (e:Ending) (w':cL):Prop:= ∃v,e= .returned (.tuple #[v, gE ha r.2])/\kG w' v r.1/\dm w.heap.size w w'
theorem BG (h:mz x=cC):lN x l=(iY,1):=by unfold lN;rw[h]
theorem zy (h:mz x=cy t) (i:iD cC l≠0):lN x l=(iY,iD cC l):=by unfold lN;rw[h];simp only;rw[if_pos i]
theorem zz (h:mz x=cy t) (i:iD cC l=0) (j:l.any (og t)=cQ):lN x l=(iY,15):=by unfold lN;rw[h];simp only;rw[if_neg (by simpa using i),if_pos j]
theorem zA (h:mz x=cy t):lN x []=(x,0):=by unfold lN;rw[h];simp[iD]
theorem uX (h:mz x=cy t) (A:iD cC l=0) (B:l.any (og t)=cI) (y:l≠[]) (i:kO x t l=cC\/x.gZ=1099511627776):lN x l=(iY,17):=by
 unfold lN;rw[h];simp only;rw[if_neg (by simpa using A),if_neg (by rw[B];decide),if_neg y];split;rfl;rename_i n p j;rcases i with i|i;rw[i] at j;cases j;rw[if_pos i]
theorem xd {n:Option Nd} (h:mz x=cy t) (y:iD cC l=0) (A:l.any (og t)=cI) (i:l≠[]) (B:kO x t l=cy (n,p)) (E:x.gZ≠1099511627776) {er:Int} (j:gR x.gL (n5 x p.ws (iA n))=(D,er)):
  lN x l=if er≠0 then ({ x with gL:=D },er) else (⟨D,x.gI,x.gJ,x.gZ+1,iA n,mv x.gI x.gJ (lh n)⟩,0):=by
 unfold lN;rw[h];simp only;rw[if_neg (by simpa using y),if_neg (by rw[A];decide),if_neg i,B];simp only;rw[if_neg E,j]
theorem E6 {d:ik} {gI gJ:Int} (j:0<=gI) (y:gJ<=1000000): ∀(f:Nat) {gN:Bool} {page:Int} {used u:List Int} {n:Nd} {k:Nat},iR d gI gJ f gN page used=cy (n,k,u)-> ∀m∈n.pre,p6 gI gJ m
 | 0,_,_,_,_,_,_,h=>by cases h
 | f+1,gN,page,used,u,n,k,h=>by have A:=(A5 j y _ h).1;rw[iR] at h;split at h;cases h;split at h;split at h;cases h;split at h;cases h;split at h;simp only[cD,cF] at h;obtain⟨rfl,-,-⟩:=h;intro m i;rw[Nd.jy] at i;simp only[Nd.gC,List.map_nil,List.flatten_nil,lx] at i;rw[i];exact A;cases h;split at h;cases h;split at h;cases h;rename_i L I M F;split at h;simp only[cD,cF] at h;obtain⟨rfl,-,-⟩:=h;intro m i;rw[Nd.jy] at i;rcases j4.1 i with i|i;rw[i];exact A;obtain⟨q,H,G⟩:=cH.1 i;obtain⟨c,B,rfl⟩:=cu.1 H;obtain⟨p,O,J,R,E⟩:=(vS F).2 c B;exact E6 j y f E m G;cases h
structure BH (x:Ix) (t:Option Nd):Prop where
 BI:iW x.gL=0
 fit:jE x.gL x.gI x.gJ=cQ
 read:j7 x.gL x.gI x.gJ=cy (x,t)
 ex: ∃u,ng x.gL x.gI x.gJ x.gN.toNat=cy (t,u)/\x.free=mv x.gI x.gJ u/\0<=x.gN
 gZ:1<=x.gZ/\x.gZ<=1099511627776
theorem Ll (d:ik) (gI gJ:Int):(jY d gI gJ).1<=1099511627776:=by
 unfold jY;cases i:jV (gQ d gI) gI gJ 0 with
 | none=>cases h:jV (gQ d (gI+1)) gI gJ 1 with
  | none=>simp[mY]
  | some b=>obtain⟨v,n⟩:=b;have:=uO h;simp[mY];omega
 | some a=>obtain⟨v,n⟩:=a;have:=uO i;cases h:jV (gQ d (gI+1)) gI gJ 1 with
  | none=>simp[mY];omega
  | some b=>obtain⟨y,j⟩:=b;have:=uO h;simp only[mY];split<;>omega
theorem xX (h:mz x=cy t):BH x t:=by
 obtain⟨d,gI,gJ,R,M,L⟩:=x;unfold mz at h;split at h;cases h;rename_i H;obtain⟨G,I⟩:=Bh (by simpa using H);split at h;cases h;rename_i S t' i;split at h;rename_i j;cases h;have y:=i;unfold j7 at i;split at i;cases i;rename_i J;split at i;cases i;rename_i O u A;simp only[cD,cF] at i;obtain⟨rfl,rfl⟩:=i;simp only at j J A y;obtain⟨B,E,F⟩:=j;subst B E F;refine⟨G,I,y,⟨u,by simpa using A,rfl,Int.natCast_nonneg _⟩,?_⟩;have:=Ll d gI gJ;simp only;omega;cases h
theorem E7 (h:g∈mv gI gJ u):gI+2<=g/\g<gJ/\g∉u:=by
 unfold mv pA at h;obtain⟨j,i⟩:=List.mem_filter.1 h;obtain⟨A,y,rfl⟩:=cu.1 j;rw[dn] at y;simp at i;exact⟨oM,oM,i⟩
theorem BH.good (h:BH x t):0<=x.gI/\x.gJ<=1000000/\x.gI+3<=x.gJ/\(∀n,t=cy n-> ∀m∈n.pre,p6 x.gI x.gJ m)/\ ∀g∈x.free,x.gI+2<=g/\g<x.gJ:=by
 obtain⟨F,j,G,H,I⟩:=ra h.fit;have J:=pd (nY h.BI).1;obtain⟨u,i,A,L⟩:=h.ex;refine⟨j,oM,oM,fun n E=>?_,fun g y=>?_⟩;subst E;unfold ng at i;split at i;cases i;split at i;cases i;rename_i M k O B;split at i;simp only[cD,cF] at i;obtain⟨rfl,-⟩:=i;exact E6 j oM _ B;cases i;rw[A] at y;have:=E7 y;omega
theorem p6.enc (h:p6 gI gJ m) (E:0<=gI) (F:gJ<=1000000):lC m/\ny m.page:=by
 obtain⟨j,y,A,B,i⟩:=h;exact⟨i,by unfold ny;omega⟩
theorem zB {l:List Nd}: ∀{f:ByteArray->Option Int} {s:ByteArray} {g:Int},lW f l s=cy g->f s=cy g\/ ∃m∈l,bs (iy m)=s/\m.page=g:=by
 induction l with
 | nil=>intro f s g h;exact .inl h
 | cons x l A=>intro f s g h;rcases A (f:=qq f (bs (iy x)) x.page) h with h|⟨m,y,i,j⟩;unfold qq at h;split at h;rename_i e;exact .inr ⟨x,oC,e.symm,by simpa using h⟩;exact .inl h;exact .inr ⟨m,by simp[y],i,j⟩
theorem Tm.cnt: ∀{h:Nat},Tm 2 4 h n->n.pre.length+1<=n.iv.length:=by
 induction n using Nd.ind with
 | h T i J H=>
  intro h t;cases t with
  | lf _ _ _ _ E M y=>rw[Nd.jy,Nd.iJ rfl];simpa[Nd.gC,Nd.ps] using E
  | mD _ _ h _ _ L j O y=>
   have F:i≠[]:=fun e=>by rw[e] at j;simp at j
   rw[Nd.jy,Nd.iu (n:= .mk [] i J) F];simp only[Nd.gC,j1];have key: ∀l:List Nd,(∀k∈l,k.pre.length+1<=k.iv.length)->(l.map Nd.pre).flatten.length+l.length<=(l.map Nd.iv).flatten.length:=by
    intro l
    induction l with
    | nil=>intro _;simp
    | cons k l I=>intro B;have R:=B k oC;have S:=I fun x G=>B x (by simp[G]);simp only[cw,cz,iI,j1];omega
   have:=key i fun k A=>H k A (y k A);omega
theorem Tm.cnt1 {h:Nat} (t:Tm 1 2 h n):n.pre.length<=n.iv.length:=by
 cases h with
 | zero=>obtain⟨j,i,E,A⟩:=t.px;rw[Nd.jy,Nd.iJ j,j];simpa using i
 | succ h=>
  obtain⟨J,B,i,E,A⟩:=t.lK;rw[Nd.jy,Nd.iu B,j1];have key: ∀l:List Nd,(∀k∈l,k.pre.length+1<=k.iv.length)->(l.map Nd.pre).flatten.length+l.length<=(l.map Nd.iv).flatten.length:=by
   intro l
   induction l with
   | nil=>intro _;simp
   | cons k l H=>intro y;have i:=y k oC;have I:=H fun x G=>y x (by simp[G]);simp only[cw,cz,iI,j1];omega
  have:=key n.gC fun k F=>(A k F).cnt;omega
theorem wy: ∀{l:List ju} {p:Option ju},iD p l=0-> ∀c∈l,k6 (c.key,c.new)/\c.old.size<=80
 | [],_,_,c,i=>by cases i
 | x::l,p,h,c,i=>by
  rw[iD] at h;split at h;rename_i j;exact absurd h j;rename_i j;rcases j4.1 i with rfl|i;have y:iZ p c=0:=by simpa using j
  unfold iZ at y;split at y;cases y;rename_i A;exact⟨⟨by simp only;omega,by simp only;omega⟩,oM⟩;exact wy h c i
theorem nW.er {o:Option Nd} (h:nW o):nW (o.map Nd.er):=by
 intro n i;cases o with
 | none=>cases i
 | some m=>cases i;obtain⟨⟨k,j⟩,y⟩:=h m rfl;exact⟨⟨k,Tm.lT.2 j⟩,by rw[Nd.lS];exact y⟩
theorem E8 {o:Option Nd} (h:nW o):jZ (jz o):=by
 cases o with
 | none=>exact List.Pairwise.nil
 | some n=>exact(h n rfl).2
theorem xY: ∀{l:List ju} {o:Option Nd},nW o->(∀c∈l,k6 (c.key,c.new))->nW (l.foldl j6 o)/\(jz (l.foldl j6 o)).length<=(jz o).length+l.length
 | [],o,h,_=>⟨h,oC⟩
 | c::l,o,h,hk=>by
  obtain⟨i,j⟩:=EO h fun _=>hk c oC;obtain⟨y,B⟩:=xY (l:=l) i fun x A=>hk x (by simp[A]);refine⟨y,?_⟩;have E:(jz (j6 o c)).length<=(jz o).length+1:=by rw[j];split;exact(EL (E8 h) _).2.1;have:=(EM (E8 h) c.key).2;omega
  rw[de,j1];omega
theorem Lm (kb:Nat) (w:cL):Calls cY 73 #[.pointer cC, .map (cy kb)] w fun e w'=>e= .returned (.tuple #[])/\w'=w:=by
 go_enter func73,ntmps73;go_wp2;refine bodyPost_ret (v:= .tuple #[]) (by simp[results,results73,go_sem]) rfl ?_;exact⟨rfl,rfl⟩
theorem Ln (gM kb:Nat) (o:Option AT) (w:cL) (h: ∀t,o=cy t->h9 gM w t/\wj t.nd/\t.nd.pre.length<=900000) (i:lV w kb 0 fun _=>cC):
  Calls cY 73 #[jP o, .map (cy kb)] w fun e w'=>e= .returned (.tuple #[])/\(∃m,lV w' kb m (sU (pq o)))/\w.grownBy w' (cy kb):=by
 cases o with
 | none=>refine(Lm kb w).mono ?_;rintro e w' ⟨rfl,rfl⟩;exact⟨rfl,⟨0,i⟩,BB (db _ _) _⟩
 | some t=>obtain⟨A,B,E⟩:=h t rfl;refine(K9 gM kb t w 0 _ A B i oM).mono ?_;rintro e w' ⟨rfl,j,y⟩;exact⟨rfl,⟨_,j⟩,y⟩
def p9 (d:ik):lJ->Prop
 | .wr i data=>0<=i/\i<d.gG.length/\(data.size:Int)=d.size
 | .fl=>True
theorem p9.of (h:p9 d o) (i:e.gG.length=d.gG.length) (j:e.size=d.size):p9 e o:=by
 cases o with
 | wr y data=>obtain⟨a,b,c⟩:=h;exact⟨a,by rw[i];exact b,by rw[j];exact c⟩
 | fl=>exact trivial
def Shape (d e:ik):Prop:=iW e=0/\e.size=d.size/\e.gG.length=d.gG.length
theorem Shape.refl (h:iW d=0):Shape d d:=⟨h,rfl,rfl⟩
theorem Shape.trans {a b c:ik} (h:Shape a b) (k:Shape b c):Shape a c:=⟨k.1,k.2.1.trans h.2.1,k.2.2.trans h.2.2⟩
theorem zC (h:iW d=0) (i:k<d.gG.length):gQ d k=(nv d k i).data.toList:=by
 unfold gQ;rw[AG h i]
theorem xZ (h:iW d=0) (g:p9 d o) (i:d.left=0):mZ d o=(d,18):=by
 cases o with
 | wr j data=>obtain⟨a,b,c⟩:=g;unfold mZ mR;simp only;rw[if_neg (by simp[h]),if_neg oM,if_neg (by simp[c]),if_pos i]
 | fl=>unfold mZ ow;simp only;rw[if_neg (by simp[h]),if_pos i]
theorem uY {i:Int} {data:ByteArray} (h:iW d=0) (g:p9 d (.wr i data)) (j:d.left≠0):mZ d (.wr i data)=({ jt d with gH:=d.gH++[⟨i,data⟩] },0):=by
 obtain⟨a,b,c⟩:=g;unfold mZ mR;simp only;rw[if_neg (by simp[h]),if_neg oM,if_neg (by simp[c]),if_neg j]
theorem tG (h:iW d=0) (i:d.left≠0):mZ d .fl=(⟨d.size,o9 d,[],(jt d).left⟩,0):=by
 unfold mZ ow;simp only;rw[if_neg (by simp[h]),if_neg i]
theorem uj (h:iW d=0) (g:p9 d o):Shape d (mZ d o).1:=by
 by_cases i:d.left=0
 rw[xZ h g i];exact .refl h;cases o with
 | wr j data=>rw[uY h g i];exact⟨IL h g.1 g.2.1 g.2.2,rfl,rfl⟩
 | fl=>rw[tG h i];exact⟨IK h _ (Di (nY h).2.2.2),rfl,uG d⟩
theorem zD (h:iW d=0) (g:p9 d o) (A:d.left≠0) (j:k<d.gG.length):
  gQ (mZ d o).1 k=match o with| .wr i data=>if i=k then data.data.toList else gQ d k| .fl=>gQ d k:=by
 have B:=uj h g;have y:k<(mZ d o).1.gG.length:=by rw[B.2.2];exact j
 rw[zC B.1 y,zC h j];cases o with
 | wr i data=>simp only;rw[IP j _ (by rw[uY h g A]) y];split<;>rfl
 | fl=>simp only;rw[IQ j _ (by rw[tG h A]) y]
theorem xe (h:iW d=0) (g: ∀o∈ops,p9 d o) (i:d.left=0) (j:ops≠[]):gR d ops=(d,18):=by
 cases ops with
 | nil=>exact absurd rfl j
 | cons o r=>rw[gR,xZ h (g o oC) i,if_pos oC]
theorem x4: ∀{ops:List lJ} {d:ik},iW d=0->(∀o∈ops,p9 d o)->Shape d (gR d ops).1/\((gR d ops).2=0\/(gR d ops).2=18)
 | [],d,h,_=>⟨.refl h, .inl rfl⟩
 | o::r,d,h,g=>by
  rw[gR];have i:=uj h (g o oC);split;.
   rename_i y;refine⟨i, .inr ?_⟩
   by_cases j:d.left=0
   rw[xZ h (g o oC) j];exfalso;apply y;cases o with
   | wr B data=>rw[uY h (g _ oC) j]
   | fl=>rw[tG h j]
  have:=x4 (ops:=r) i.1 (fun o' A=>(g o' (by simp[A])).of i.2.2 i.2.1);exact⟨i.trans this.1,this.2⟩
theorem xf: ∀(a b:List lJ) (d:ik),gR d (a++b)=if (gR d a).2≠0 then gR d a else gR (gR d a).1 b
 | [],b,d=>by simp[gR]
 | o::r,b,d=>by
  rw[c9,gR,gR,xf r b]
  by_cases h:(mZ d o).2≠0
  rw[if_pos h,if_pos h,if_pos h];rw[if_neg h,if_neg h]
theorem uZ {r:List lJ} (h:(mZ d o).2=0):gR d (o::r)=gR (mZ d o).1 r:=by rw[gR,if_neg (by simp[h])]
theorem zE: ∀{ops:List lJ} {d:ik} {k:Nat},iW d=0->(∀o∈ops,p9 d o)->k<d.gG.length->(∀i data,lJ.wr i data∈ops->i≠k)->gQ (gR d ops).1 k=gQ d k
 | [],_,_,_,_,_,_=>rfl
 | o::r,d,k,h,g,hk,hn=>by
  have j:=uj h (g o oC);have A:gQ (mZ d o).1 k=gQ d k:=by
   by_cases y:d.left=0
   rw[xZ h (g o oC) y];rw[zD h (g o oC) y hk];cases o with
   | wr i data=>exact if_neg (hn i data oC)
   | fl=>rfl
  rw[gR];split;exact A;rw[zE (ops:=r) j.1 (fun o' E=>(g o' (by simp[E])).of j.2.2 j.2.1) (by rw[j.2.2];exact hk) fun i data B=>hn i data (by simp[B])];exact A
theorem zF: ∀{ops:List lJ} {d:ik} {k:Nat} {D:List UInt8},iW d=0->(∀o∈ops,p9 d o)->k<d.gG.length->(gR d ops).2=0->(∀i data,lJ.wr i data∈ops->i=k->data.data.toList=D)->
  (gQ d k=D\/ ∃i data,lJ.wr i data∈ops/\i=k)->gQ (gR d ops).1 k=D
 | [],d,k,D,_,_,_,_,_,h=>by rcases h with h|⟨i,data,h,_⟩;exact h;cases h
 | o::r,d,k,D,h,g,hk,he,hn,hh=>by
  have y:d.left≠0:=by intro y;rw[xe h g y oC] at he;cases he
  have B:=uj h (g o oC);have G:(mZ d o).2=0:=by
   cases o with
   | wr i data=>rw[uY h (g _ oC) y]
   | fl=>rw[tG h y]
  rw[uZ G] at he |-;refine zF B.1 (fun o' H=>(g o' (by simp[H])).of B.2.2 B.2.1) (by rw[B.2.2];exact hk) he (fun i data j=>hn i data (by simp[j])) ?_;rw[zD h (g o oC) y hk];cases o with
  | wr i data=>
   simp only
   by_cases A:i=k
   rw[if_pos A];exact .inl (hn i data oC A);rw[if_neg A];refine hh.imp id ?_;rintro⟨F,E,j,e⟩;rcases j4.1 j with j|j;exact absurd (by cases j;exact e) A;exact⟨F,E,j,e⟩
  | fl=>refine hh.imp id ?_;rintro⟨F,E,j,e⟩;rcases j4.1 j with j|j;cases j;exact⟨F,E,j,e⟩
abbrev oW (x:PW):lJ:= .wr x.page x.data
theorem BJ: ∀(ws:List PW) {d:ik},iW d=0->(∀x∈ws,p9 d (oW x))->
  (∃j,j<=ws.length/\(gR d (ws.map oW)).1.gH=d.gH++ws.take j/\(gR d (ws.map oW)).1.gG=d.gG/\
   (((gR d (ws.map oW)).2=0/\j=ws.length/\(d.left= -1->(gR d (ws.map oW)).1.left= -1))\/((gR d (ws.map oW)).2=18/\(gR d (ws.map oW)).1.left=0/\d.left≠ -1)))
 | [],d,_,_=>⟨0,oC,by simp[gR],rfl, .inl ⟨rfl,rfl,fun h=>h⟩⟩
 | x::r,d,h,g=>by
  by_cases A:d.left=0
  rw[xe h (fun o R=>by obtain⟨y,E,rfl⟩:=cu.1 R;exact g y E) A oC];exact⟨0,oC,oC,rfl, .inr ⟨rfl,A,oM⟩⟩;have G:=g x oC;have B:=uj h G;have i:=uY h G A;obtain⟨j,O,I,J,F⟩:=BJ r B.1 (fun y E=>(g y (by simp[E])).of B.2.2 B.2.1);rw[cw,uZ (by rw[i])];have M:(mZ d (oW x)).1.gH=d.gH++[x]:=by rw[i]
  have S:(mZ d (oW x)).1.gG=d.gG:=by rw[i];rfl
  have L:(mZ d (oW x)).1.left=(jt d).left:=by rw[i]
  refine⟨j+1,by simpa using O,by rw[I,M];simp,J.trans S,?_⟩;rw[L] at F;have H:d.left= -1↔(jt d).left= -1:=by have:=(nY h).2.2.2;unfold jt;simp only;split<;>omega
  rcases F with⟨a,b,c⟩|⟨a,b,c⟩;exact .inl ⟨a,by simp[b],fun e=>c (H.1 e)⟩;exact .inr ⟨a,b,fun e=>c (H.1 e)⟩
theorem x5 {n:Nat} (h:n<=1099511627776):be (jh n)=n:=by
 unfold be jh;simp only[de,List.foldl_nil,cR];omega
theorem x6 (n:Nat):(jh n).length=8:=rfl
theorem tH {n:Nat} (h:24<=z):(jd z v n).length=z:=by unfold jd;simp[x6];omega
theorem zG (z v n:Nat):(jd z v n).take 8=jh v:=by
 unfold jd;rw[cA,cA];exact dz (x6 v)
theorem E9 (z v n:Nat):((jd z v n).drop 8).take 8=jh n:=by
 unfold jd;rw[cA,cA,dB (x6 v)];exact dz (x6 n)
theorem BK {n:Nat} (h:24<=z):(jd z v n).drop (z - 8)=jh v:=by
 unfold jd;exact dB (by simp[x6];omega)
theorem Lp {n:Nat} {a:Int} (B:24<=z) (j:1<=V) (h:V<=1099511627776) (y:V % 2=k) (A:(n:Int)<=a) (i:n<=1099511627776):sH (jd z V n) k a=cy (V,n):=by
 unfold sH;rw[zG,E9,x5 h,x5 i,tH B,if_pos ⟨j,h,y,A,i,rfl⟩]
def qP (z V:Nat) (p:List UInt8):Prop:=p.length=z/\p.take 7=cv 7 0/\(p.drop (z - 8)).take 7=cv 7 0/\(p.getD (z - 1) 0).toNat<V
theorem BL (h:v<256):jh v=cv 7 0++[cJ v]:=by
 unfold jh;rw[cM oM,cM oM,cM oM,cM oM,cM oM,cM oM,cM h];rfl
theorem qa {p:List UInt8} {a j:Nat}:(p.drop a).getD j 0=p.getD (a+j) 0:=by simp[cU]
theorem Lq {n:Nat} {a:Int} {p:List UInt8} (M:24<=z) (h:qP z V p) (J:sH p k a=cy (v,n)):v<V:=by
 obtain⟨F,G,R,H⟩:=h;obtain⟨T,U,X,O,Y,aa,ab,y⟩:=Jg J;have B:p.take 8=jh v:=by rw[y,zG]
 have A:(jh v).take 7=cv 7 0:=by rw[<-B,List.take_take];exact G
 have S:v<256:=by
  have i:be (jh v)=v:=x5 O;have L:jh v=(jh v).take 7++[cJ v]:=rfl;rw[L,A] at i;have I:be (cv 7 0++[cJ v])=(cJ v).toNat:=by simp[be,cv]
  rw[I,cR] at i;omega
 have E:p.drop (z - 8)=jh v:=by rw[y,F,BK M]
 have:p.getD (z - 1) 0=cJ v:=by have:=qa (p:=p) (a:=z - 8) (j:=7);rw[E,show z - 8+7=z - 1 by omega] at this;rw[<-this];rfl
 rw[this,cR] at H;omega
theorem Fa {n:Nat} (i:24<=z) (h:V<256):qP z (V+1) (jd z V n):=by
 refine⟨tH i,?_,?_,?_⟩;have:(jd z V n).take 7=((jd z V n).take 8).take 7:=by rw[List.take_take,dD oM]
 rw[this,zG,BL h];rfl;rw[BK i,BL h];rfl;have:=qa (p:=jd z V n) (a:=z - 8) (j:=7);rw[BK i,show z - 8+7=z - 1 by omega,BL h] at this;rw[<-this];simp[cv];omega
theorem Lr (i:24<=z) (h:1<=V):qP z V (cv z 0):=by
 refine⟨oC,?_,?_,?_⟩;rw[dN,dD oM];rw[List.drop_replicate,dN,dD oM];have:(cv z (0:UInt8)).getD (z - 1) 0=0:=by rw[cU,List.getElem?_replicate,if_pos oM];rfl
 rw[this];exact h
theorem Ls {n t:Nat} {p:List UInt8} (E:24<=z) (T:V<255) (L:qP z V p):qP z V ((jd z (V+1) n).take t++p.drop t)\/z<=t:=by
 rcases Nat.lt_or_ge t z with B|B;.
  left;obtain⟨S,H,I,J⟩:=L;have U:=tH (v:=V+1) (n:=n) E;have A: ∀h,((jd z (V+1) n).take t++p.drop t)[h]?=if h<t then (jd z (V+1) n)[h]? else p[h]?:=by
   intro h;have M:((jd z (V+1) n).take t).length=t:=by rw[List.length_take];omega
   by_cases i:h<t
   rw[if_pos i,List.getElem?_append_left oM,cT,if_pos i];rw[if_neg i,List.getElem?_append_right oM,dq];congr 1;omega
  obtain⟨O,F,G,R⟩:=Fa (n:=n) E (V:=V+1) oM;refine⟨oN,?_,?_,?_⟩;.
   apply dv;intro h;rw[cT]
   by_cases i:h<7
   rw[if_pos i,A];have j:=congrArg (fun l:List UInt8=>l[h]?) H;have y:=congrArg (fun l:List UInt8=>l[h]?) F;simp only[cT,if_pos i] at j y;split;exact y;exact j;rw[if_neg i,cX oN]
  .
   apply dv;intro h;rw[cT]
   by_cases i:h<7
   rw[if_pos i,dq,A];have j:=congrArg (fun l:List UInt8=>l[h]?) I;have y:=congrArg (fun l:List UInt8=>l[h]?) G;simp only[cT,if_pos i,dq] at j y;split;exact y;exact j;rw[if_neg i,cX oN]
  have e:((jd z (V+1) n).take t++p.drop t).getD (z - 1) 0=p.getD (z - 1) 0:=by unfold cU;rw[A,if_neg oM]
  rw[e];exact J
 exact .inr B
theorem Fe {x y:Option (Nat×Nat)} {n:Nat} (h:(x=cy (V,n)/\ ∀p,y=cy p->p.1<V)\/(y=cy (V,n)/\ ∀p,x=cy p->p.1<V)):mY x y=(V,n):=by
 rcases h with⟨rfl,h⟩|⟨rfl,h⟩;.
  cases y with
  | none=>rfl
  | some p=>have:=h p rfl;simp[mY];omega
 cases x with
 | none=>rfl
 | some p=>have:=h p rfl;simp[mY];omega
theorem zH (h:iW d=0) (i:d.gH=[]) (j:k<d.gG.length):gQ d k=d.gG[k].data.toList:=by
 rw[zC h j];unfold nv;rw[i];rfl
theorem zI (h:iW d=0) (gP:List Int):Shape d (ma d gP):=⟨II h gP,IJ h gP,AE h gP⟩
theorem BM (h:iW d=0) (gP:List Int):(ma d gP).gH=[]:=by unfold ma;rw[if_neg (by simp[h])]
theorem BN (h:iW d=0) (gP:List Int) (i:k<d.gG.length):gQ (ma d gP) k=((nG gP d.size 0 d.gH d.gG).getD k cx).data.toList:=by
 have y:=zI h gP;have j:k<(ma d gP).gG.length:=by rw[y.2.2];exact i
 rw[zC y.1 j,IV h gP j];congr 2;rw[cU,cE (by rw[vG];exact i)];rfl
theorem Lt (n:Nat) (a b:ByteArray):(mX n a b).data.toList=a.data.toList.take n++b.data.toList.drop n:=by
 unfold mX;rw[ByteArray.data_append,Array.toList_append,wP,wP,List.drop_zero,Nat.sub_zero,cG (l:=b.data.toList.drop n) (by rw[List.length_drop,wO];exact cP _)]
theorem Ff {b:Nat} (h:b<s.size):s.data.toList[b]?=cy (sK s b):=by
 have i:b<s.data.size:=h;unfold sK;rw[Array.getElem?_toList,Array.getElem?_eq_getElem i];rfl
theorem Lu {a b:ByteArray} (y:a.size=b.size) (h: ∀i,sK a i=sK b i):a.data.toList=b.data.toList:=by
 apply dv;intro i
 by_cases j:i<a.size
 rw[Ff j,Ff oM,h];rw[cX (by rw[wO];omega),cX (by rw[wO];omega)]
theorem BO: ∀(ops:List lJ) {d:ik},iW d=0->(∀o∈ops,p9 d o)->d.left= -1->(gR d ops).2=0/\(gR d ops).1.left= -1
 | [],_,_,_,hl=>⟨rfl,hl⟩
 | o::r,d,h,g,hl=>by
  have i:=uj h (g o oC);have j:(mZ d o).2=0/\(mZ d o).1.left= -1:=by
   have y:(jt d).left= -1:=by unfold jt;simp only;rw[if_neg oM];exact hl
   cases o with
   | wr B data=>rw[uY h (g _ oC) oM];exact⟨rfl,y⟩
   | fl=>rw[tG h oM];exact⟨rfl,y⟩
  rw[uZ j.1];exact BO r i.1 (fun o' A=>(g o' (by simp[A])).of i.2.2 i.2.1) j.2
theorem Lv {p s:Int} (h:qy p s=cQ):(mN p s).2=0/\(mN p s).1.left= -1/\(mN p s).1.gH=[]/\iW (mN p s).1=0/\(mN p s).1.size=s/\((mN p s).1.gG.length:Int)=p:=by
 have y:=pd h;unfold mN;rw[if_pos h];refine⟨rfl,rfl,rfl,?_,rfl,oN⟩;have j:((p.toNat:Nat):Int)=p:=oM
 refine yM (by simp only[di,j];exact h) ?_ oC oC;intro x i;simp only[List.mem_replicate] at i;rw[i.2];simp[ByteArray.size];omega
theorem Fg (h:s.size<=255) (r:List UInt8):kH (jH s++r)=cy (s.data.toList,r):=by
 have j:(cJ s.size).toNat=s.size:=by rw[cR];omega
 have i:s.data.toList.length=s.size:=wO s;unfold jH;rw[c9,kH,j,if_neg (by rw[iI];omega),dz i,dB i]
theorem Lx {p:Kv} (h:k6 p) (r:List UInt8):kI (tD p++r)=cy (p,r):=by
 obtain⟨i,j⟩:=h;unfold kI tD;rw[cA,Fg oM];simp only;rw[Fg oM];simp only;rw[if_neg (by rw[wO,wO];omega),pz,pz]
theorem zJ: ∀{ps:List Kv},(∀p∈ps,k6 p)-> ∀r:List UInt8,jm ps.length ((ps.map tD).flatten++r)=cy ps
 | [],_,_=>rfl
 | p::ps,h,r=>by rw[j1,jm,cw,cz,cA,Lx (h p oC)];simp only;rw[zJ (fun x i=>h x (by simp[i])) r];rfl
def uk (p:Int):Prop:=0<=p/\p<65536
theorem Lz (a b:UInt8) (s:List UInt8) (i:Nat):mI (a::b::s) (i+1)=mI s i:=by
 unfold mI;rw[show 2 * (i+1)=2 * i+1+1 by omega];simp[cU]
theorem LA {p:Int} (h:uk p) (s:List UInt8):mI (lQ p++s) 0=p:=by
 unfold mI lQ uk at *;simp[cU];omega
theorem zK: ∀{l:List Int},(∀p∈l,uk p)-> ∀r:List UInt8,mg ((l.map lQ).flatten++r) l.length=l
 | [],_,_=>rfl
 | p::l,h,r=>by
  unfold mg;rw[j1,List.range_succ_eq_map,cw,List.map_map,cw,cz,cA,LA (h p oC)];congr 1;have i:=zK (fun x j=>h x (by simp[j])) r (l:=l);unfold mg at i
  conv=>rhs;rw[<-i]
  refine List.map_congr_left fun y _=>?_;show mI (lQ p++_) (y+1)=_;exact Lz _ _ _ _
theorem Fh (a b:UInt8) (l:List UInt8): ∃z,jg (a::b::l)=a::b::(l++cv z 0):=⟨_,rfl⟩
theorem zL (h:n.gC=[]): ∃z,iy n=76::cJ n.ps.length::((n.ps.map tD).flatten++cv z 0):=by
 unfold iy oY;rw[if_pos h];exact Fh _ _ _
theorem zM (h:n.gC≠[]): ∃z,iy n=78::cJ n.gC.length::(((n.gC.map Nd.page).map lQ).flatten++((n.gC.tail.map fun k=>jH k.ie).flatten++cv z 0)):=by
 unfold iy oY;rw[if_neg h];obtain⟨z,i⟩:=Fh 78 (cJ n.gC.length) ((n.gC.map fun k=>lQ k.page).flatten++(n.gC.tail.map fun k=>jH k.ie).flatten);refine⟨z,?_⟩;show jg (78::cJ n.gC.length::_)=_;rw[i,cA,List.map_map];rfl
theorem xg {n:Nat} (h:n<=255):(cJ n).toNat=n:=by rw[cR];omega
theorem LB (ae:kM a) (Y:kM b) (aa: ∀k∈a.gC,uk k.page) (pb: ∀k∈b.gC,uk k.page) (h:iy a=iy b):a.ps=b.ps/\a.gC.map Nd.page=b.gC.map Nd.page:=by
 cases ae with
 | lf ag L ah ai B=>
  obtain⟨z,R⟩:=zL (n:= .mk ag [] L) rfl;rw[R] at h;cases Y with
  | lf U j ab ac J=>obtain⟨H,y⟩:=zL (n:= .mk U [] j) rfl;rw[y] at h;simp only[Nd.ps,ds,true_and] at h;obtain⟨M,O⟩:=h;have E:=congrArg UInt8.toNat M;rw[xg oM,xg oM] at E;have A:=zJ B (cv z 0);have I:=zJ J (cv H 0);rw[O,E,I] at A;exact⟨(c6 A).symm,rfl⟩
  | mD i j F ad J=>
   have S:(Nd.mk [] i j).gC≠[]:=fun e=>by rw[show(Nd.mk [] i j).gC=i from rfl] at e;rw[e] at F;simp at F
   obtain⟨H,y⟩:=zM S;rw[y] at h;simp at h
 | mD G L X aj B=>
  have S:(Nd.mk [] G L).gC≠[]:=fun e=>by rw[show(Nd.mk [] G L).gC=G from rfl] at e;rw[e] at X;simp at X
  obtain⟨z,R⟩:=zM S;rw[R] at h;cases Y with
  | lf U j ab ac J=>obtain⟨H,y⟩:=zL (n:= .mk U [] j) rfl;rw[y] at h;simp at h
  | mD i j F ad J=>
   have af:(Nd.mk [] i j).gC≠[]:=fun e=>by rw[show(Nd.mk [] i j).gC=i from rfl] at e;rw[e] at F;simp at F
   obtain⟨H,y⟩:=zM af;rw[y] at h;simp only[Nd.gC,ds,true_and] at h aa pb |-;obtain⟨M,O⟩:=h;have E:=congrArg UInt8.toNat M;rw[xg oM,xg oM] at E;have A:=zK (l:=G.map Nd.page) (fun p T=>by obtain⟨k,B,rfl⟩:=cu.1 T;exact aa k B) ((G.tail.map fun k=>jH k.ie).flatten++cv z 0);have I:=zK (l:=i.map Nd.page) (fun p T=>by obtain⟨k,B,rfl⟩:=cu.1 T;exact pb k B) ((i.tail.map fun k=>jH k.ie).flatten++cv H 0);rw[cS] at A I;rw[O,E,I] at A;exact⟨rfl,A.symm⟩
theorem tI (n:Nd):n∈n.pre:=by rw[Nd.jy];simp
theorem u9 {k:Nd} (h:k∈n.gC) (i:m∈k.pre):m∈n.pre:=by
 rw[Nd.jy];exact dL _ (cH.2 ⟨_,cu.2 ⟨k,h,rfl⟩,i⟩)
theorem um (h:m∈n.pre):m=n\/ ∃k∈n.gC,m∈k.pre:=by
 rw[Nd.jy] at h;rcases j4.1 h with h|h;exact .inl h;obtain⟨q,y,j⟩:=cH.1 h;obtain⟨k,i,rfl⟩:=cu.1 y;exact .inr ⟨k,i,j⟩
theorem Fi: ∀{n m c:Nd},m∈n.pre->c∈m.pre->c∈n.pre:=by
 intro n
 induction n using Nd.ind with
 | h F B E A=>intro m c i j;rcases um i with rfl|⟨k,y,i⟩;exact j;exact u9 y (A k y i j)
theorem Fj: ∀{n m:Nd},m∈n.pre->SizeOf.sizeOf m<=SizeOf.sizeOf n:=by
 intro n
 induction n using Nd.ind with
 | h E A B y=>intro m i;rcases um i with rfl|⟨k,j,i⟩;exact cP _;exact jU (y k j i) (Nat.le_of_lt (Nd.nc j))
theorem xh: ∀{n m:Nd},m∈n.pre->m.iv.Sublist n.iv:=by
 intro n
 induction n using Nd.ind with
 | h F B E A=>intro m j;rcases um j with rfl|⟨k,i,j⟩;exact List.Sublist.refl _;have y:(Nd.mk F B E).gC≠[]:=List.ne_nil_of_mem i;rw[Nd.iu y];exact(A k i j).trans (cN (cu.2 ⟨k,i,rfl⟩))
theorem wz: ∀{n m:Nd},kM n->m∈n.pre->kM m:=by
 intro n
 induction n using Nd.ind with
 | h F B E A=>intro m y i;rcases um i with rfl|⟨k,j,i⟩;exact y;exact A k j (y.kid k j) i
theorem kM.sV: ∀{n:Nd},kM n->n.iv≠[]:=by
 intro n
 induction n using Nd.ind with
 | h y E F B=>
  intro h;cases h with
  | lf _ _ i G j=>rw[Nd.iJ rfl];intro e;rw[show Nd.ps (.mk y [] F)=y from rfl] at e;rw[e] at i;simp at i
  | mD _ _ A H j=>
   cases E with
   | nil=>simp at A
   | cons k r=>rw[Nd.iu (by simp[Nd.gC])];simp only[Nd.gC,cw,cz];intro e;exact B k oC (j k oC) (List.append_eq_nil_iff.1 e).1
theorem LC {l m:List Kv} (h:jZ (l++m)) {p:Kv} (i:p∈l) (j:p∈m):False:=by
 have:=(jZ.app.1 h).2.2 p i p j;rw[tB] at this;cases this
theorem LD: ∀{n:Nd},kM n->jZ n.iv->n.pre.Nodup:=by
 intro n
 induction n using Nd.ind with
 | h Y A X S=>
  intro J j;rw[Nd.jy,cZ];refine⟨fun y=>?_,?_⟩;obtain⟨q,E,y⟩:=cH.1 y;obtain⟨k,i,rfl⟩:=cu.1 E;have aa:=Fj y;have ab:=Nd.nc i;omega
  by_cases H:A=[]
  subst H;exact c5;rw[Nd.iu (n:= .mk Y A X) H] at j;have key: ∀l:List Nd,(∀k∈l,k∈A)->jZ (l.map Nd.iv).flatten->(l.map Nd.pre).flatten.Nodup:=by
   intro l
   induction l with
   | nil=>intro _ _;exact c5
   | cons k l T=>intro G B;rw[cw,cz] at B |-;have i:=G k oC;have F:=jZ.app.1 B;refine c7.2 ⟨S k i (J.kid k i) F.1,T (fun x R=>G x (by simp[R])) F.2.1,fun a j b L e=>?_⟩;subst e;obtain⟨q,E,y⟩:=cH.1 L;obtain⟨U,M,rfl⟩:=cu.1 E;have O:=wz (J.kid k i) j;obtain⟨p,I⟩:=List.exists_mem_of_ne_nil _ O.sV;exact LC B ((xh j).subset I) (cH.2 ⟨_,cu.2 ⟨U,M,rfl⟩,(xh y).subset I⟩)
  exact key A (fun k i=>i) j
def qA (C:Int->List UInt8) (n:Nd):Prop:= ∀m∈n.pre,C m.page=iy m/\uk m.page
theorem qA.kid {k:Nd} (h:qA C n) (i:k∈n.gC):qA C k:=fun m j=>h m (u9 i j)
theorem qA.sub {k:Nd} (h:qA C n) (i:k∈n.pre):qA C k:=fun m j=>h m (Fi i j)
theorem qA.gC (h:qA C n): ∀k∈n.gC,uk k.page:=fun k i=>(h k (u9 i (tI k))).2
theorem Fk: ∀{a b:Nd},kM a->kM b->qA C a->qA C b->iy a=iy b->a.ps=b.ps/\a.gC=b.gC:=by
 intro a
 induction a using Nd.ind with
 | h M j L Y=>
  intro b G H B E X;obtain⟨O,R⟩:=LB G H B.gC E.gC X;refine⟨O,?_⟩;have key: ∀l m:List Nd,(∀k∈l,k∈j)->(∀k∈m,k∈b.gC)->l.map Nd.page=m.map Nd.page->l=m:=by
   intro l
   induction l with
   | nil=>
    intro m _ _ e;cases m with
    | nil=>rfl
    | cons x m=>simp at e
   | cons k l aa=>
    intro m I J e;cases m with
    | nil=>simp at e
    | cons c m=>
     rw[cw,cw,ds] at e;have i:=I k oC;have y:=J c oC;have F:=(B k (u9 (n:= .mk M j L) i (tI k))).1;have U:=(E c (u9 y (tI c))).1;rw[e.1] at F;obtain⟨S,T⟩:=Y k i (G.kid k i) (H.kid c y) (B.kid (n:= .mk M j L) i) (E.kid y) (F.symm.trans U);have:k=c:=by rw[<-Nd.eta k, <-Nd.eta c,S,T,e.1]
     rw[this,aa m (fun x A=>I x (by simp[A])) (fun x A=>J x (by simp[A])) e.2]
  exact key j b.gC (fun k i=>i) (fun k i=>i) R
theorem LF (F:kM a) (G:kM b) (j:qA C a) (y:qA C b) (i:a.page=b.page):a=b:=by
 have h:=(j a (tI a)).1;have E:=(y b (tI b)).1;rw[i] at h;obtain⟨A,B⟩:=Fk F G j y (h.symm.trans E);rw[<-Nd.eta a, <-Nd.eta b,A,B,i]
theorem BP {α β:Type} {f:α->β}: ∀{l:List α},l.Nodup->(∀a∈l,∀b∈l,f a=f b->a=b)->(l.map f).Nodup
 | [],_,_=>c5
 | x::l,h,hi=>by obtain⟨j,y⟩:=cZ.1 h;rw[cw,cZ];refine⟨fun E=>?_,BP y fun a A b B e=>hi a (by simp[A]) b (by simp[B]) e⟩;obtain⟨F,i,e⟩:=cu.1 E;have:=hi F (by simp[i]) x oC e;subst this;exact j i
theorem LG (h:kM n) (y:jZ n.iv) (o:qA C n):(n.pre.map Nd.page).Nodup:=
 BP (LD h y) fun _ i _ j e=>LF (wz h i) (wz h j) (o.sub i) (o.sub j) e
theorem Fl {g:Int->List Int->Option (Nd×List Int)}: ∀{l:List Nd} {u:List Int},(∀k∈l,∀u,(∀m∈k.pre,m.page∉u)->g k.page u=cy (k,u++k.pre.map Nd.page))->((l.map Nd.pre).flatten.map Nd.page).Nodup->(∀m∈(l.map Nd.pre).flatten,m.page∉u)->
  jL g (l.map Nd.page) u=cy (l,u++(l.map Nd.pre).flatten.map Nd.page)
 | [],u,_,_,_=>by simp[jL]
 | k::l,u,hg,hn,hd=>by
  rw[cw,cz,dA] at hn;obtain⟨B,y,A⟩:=c7.1 hn;rw[cw,jL,hg k oC u fun m i=>hd m (by simp[i])];simp only;rw[Fl (fun c j=>hg c (by simp[j])) y fun m i h=>by rcases jD.1 h with h|h;exact hd m (by rw[cw,cz];exact dh _ i) h;exact A _ h _ (cu.2 ⟨m,i,rfl⟩) rfl]
  simp
theorem Fm {d:ik} {gI gJ:Int} (M:0<=gI) (O:gJ<=65536): ∀(f:Nat) {n:Nd} {used:List Int},n.pre.length<=f->kM n->(∀m∈n.pre,gI+2<=m.page/\m.page<gJ/\gQ d m.page=iy m)->(n.pre.map Nd.page).Nodup->(∀m∈n.pre,m.page∉used)->
  iH d gI gJ f n.page used=cy (n,used++n.pre.map Nd.page)
 | 0,n,_,hf,_,_,_,_=>by rw[Nd.jy] at hf;simp at hf
 | f+1,n,used,hf,hs,hp,hn,hu=>by
  obtain⟨ac,ad,X⟩:=hp n (tI n);rw[iH,if_neg (by
   rintro (j|j|j);. omega
   . omega
   . exact hu n (tI n) j),X]
  cases hs with
  | lf ps i Y aa H=>
   obtain⟨z,A⟩:=zL (n:= .mk ps [] i) rfl;have B:(iy (.mk ps [] i)).getD 0 0=76:=by rw[A];rfl
   have E:((iy (.mk ps [] i)).getD 1 0).toNat=ps.length:=by rw[A];exact xg (n:=ps.length) oM
   have G:jm ps.length ((iy (.mk ps [] i)).drop 2)=cy ps:=by rw[A];exact zJ H _
   rw[if_pos B,E,if_neg oM,G];simp only;rw[if_pos (show jg (j5 ps)=iy (.mk ps [] i) from rfl),Nd.jy];rfl
  | mD h i I ab H=>
   have J:(Nd.mk [] h i).gC≠[]:=fun e=>by rw[show(Nd.mk [] h i).gC=h from rfl] at e;rw[e] at I;simp at I
   obtain⟨z,A⟩:=zM J;have B:(iy (.mk [] h i)).getD 0 0=78:=by rw[A];rfl
   have E:((iy (.mk [] h i)).getD 1 0).toNat=h.length:=by rw[A];exact xg (n:=h.length) oM
   have G:mg ((iy (.mk [] h i)).drop 2) h.length=h.map Nd.page:=by
    have:=zK (l:=h.map Nd.page) (fun p T=>by obtain⟨k,y,rfl⟩:=cu.1 T;have:=hp k (u9 (n:= .mk [] h i) y (tI k));unfold uk;omega) ((h.tail.map fun k=>jH k.ie).flatten++cv z 0)
    rw[cS] at this;rw[A];exact this
   rw[if_neg (by rw[B];decide),if_neg (by rw[B,E];simp;omega),E,G];have L:(Nd.mk [] h i).pre= .mk [] h i::(h.map Nd.pre).flatten:=Nd.jy _;rw[L] at hn hf hu;rw[cw,cZ] at hn;rw[j1] at hf;have S: ∀k∈h,k.pre.length<=f:=fun k y=>by have:k.pre.Sublist (h.map Nd.pre).flatten:=cN (cu.2 ⟨k,y,rfl⟩);have:=this.length_le;omega
   have R:=Fl (g:=iH d gI gJ f) (l:=h) (u:=used++[i]) (fun k y u U=>Fm M O f (S k y) (H k y) (fun m F=>hp m (u9 (n:= .mk [] h i) y F)) (by
    have:k.pre.Sublist (h.map Nd.pre).flatten:=cN (cu.2 ⟨k,y,rfl⟩);exact List.Nodup.sublist (this.map Nd.page) hn.2) U) hn.2 fun m F j=>by
     rcases jD.1 j with j|j;. exact hu m (by simp[F]) j
     . refine hn.1 (cu.2 ⟨m,F,?_⟩);show m.page=i;simpa using j
   show(match jL (iH d gI gJ f) (h.map Nd.page) (used++[i]) with
    | none=>cC
    | some (ke,u)=>if jg (kd ke)=iy (.mk [] h i) then cy (Nd.mk [] ke i,u) else cC)=_
   rw[R];simp only;rw[if_pos (show jg (kd h)=iy (.mk [] h i) by unfold iy oY;rw[if_neg J];rfl),L];simp[Nd.page]
theorem LH {α β:Type} {f:α->β} {l:List α} (h:(l.map f).Nodup) {a b:α} (j:a∈l) (A:b∈l) (e:f a=f b):a=b:=by
 induction l with
 | nil=>cases j
 | cons x l B=>rw[cw,cZ] at h;rcases j4.1 j with rfl|y;rcases j4.1 A with rfl|i;rfl;exact absurd (cu.2 ⟨b,i,e.symm⟩) h.1;rcases j4.1 A with rfl|i;exact absurd (cu.2 ⟨a,y,e⟩) h.1;exact B h.2 y i
theorem LI (l:List Nd):Nd.oA l=(l.map Nd.je).flatten:=by
 induction l with
 | nil=>rfl
 | cons x l h=>rw[Nd.oA,h];rfl
theorem zN (n:Nd):n.je=(n.gC.map Nd.je).flatten++[n]:=by
 cases n;rw[Nd.je,LI];rfl
theorem xi: ∀{n m:Nd},m∈n.je↔m∈n.pre:=by
 intro n
 induction n using Nd.ind with
 | h F B E A=>intro m;rw[zN,Nd.jy,jD,lx,j4,cH,cH,Or.comm];refine or_congr Iff.rfl ⟨?_,?_⟩;rintro⟨q,y,j⟩;obtain⟨k,i,rfl⟩:=cu.1 y;exact⟨_,cu.2 ⟨k,i,rfl⟩,(A k i).1 j⟩;rintro⟨q,y,j⟩;obtain⟨k,i,rfl⟩:=cu.1 y;exact⟨_,cu.2 ⟨k,i,rfl⟩,(A k i).2 j⟩
def k9:Option Nd->List Nd
 | none=>[]
 | some n=>n.pre
theorem Fo:m∈k9 t↔ ∃n,t=cy n/\m∈n.pre:=by
 cases t with
 | none=>simp[k9]
 | some n=>simp[k9]
theorem Fp {p:Int}:p∈lh t↔p∈(k9 t).map Nd.page:=by
 cases t with
 | none=>simp[lh,k9]
 | some n=>simp only[lh,k9,cu];exact⟨fun⟨m,hm,e⟩=>⟨m,xi.1 hm,e⟩,fun⟨m,hm,e⟩=>⟨m,xi.2 hm,e⟩⟩
theorem LJ {v:List Int} (h: ∀p,p∈u↔p∈v):mv gI gJ u=mv gI gJ v:=by
 unfold mv;refine List.filter_congr fun p _=>?_;have:u.contains p=v.contains p:=by rw[Bool.eq_iff_iff,dJ,dJ];exact h p
 rw[this]
theorem LK (gI gJ:Int):(pA gI gJ).Nodup:=by
 unfold pA;exact BP List.nodup_range fun a _ b _ e=>oM
theorem LL (gI gJ:Int) (u:List Int):(mv gI gJ u).Nodup:=(LK gI gJ).sublist List.filter_sublist
theorem Fq (j:1<=V) (h:V<=1099511627776) (y:V % 2=k) (A:r=0\/(gI+2<=(r:Int)/\(r:Int)<gJ)) (i:r<=1099511627776):jV (jd 512 V r) gI gJ k=cy (V,r):=by
 unfold jV;rw[zG,E9,x5 h,x5 i,if_pos ⟨j,h,i,A,y,rfl⟩]
theorem Fs {n:Nat} {p:List UInt8} (h:qP 512 V p) (i:jV p gI gJ k=cy (v,n)):v<V:=by
 obtain⟨_,_,j,y,A,_,B,E⟩:=tS i;refine Lq (k:=k) (v:=v) (n:=n) (a:=n) (z:=512) oF h ?_;rw[E];exact Lp oF j y B (Int.le_refl _) A
structure k5 (d:ik) (gI gJ:Int) (V:Nat) (t:Option Nd):Prop where
 fit:iQ d gI gJ=0
 empty:d.gH=[]
 gZ:1<=V
 iX:V<=200
 cur:gQ d (gI+((V % 2:Nat):Int))=jd 512 V (iA t).toNat
 old:qP 512 V (gQ d (gI+(((V+1) % 2:Nat):Int)))
 tm:nW t
 gG: ∀m∈k9 t,gI+2<=m.page/\m.page<gJ/\gQ d m.page=iy m
def iP (d:ik) (gI gJ:Int) (V:Nat) (t:Option Nd):Ix:=⟨d,gI,gJ,V,iA t,mv gI gJ (lh t)⟩
theorem xj (h:iQ d gI gJ=0):iW d=0/\d.size=512/\0<=gI/\gJ<=(d.gG.length:Int)/\3<=gJ/\gI<=gJ - 3/\d.gG.length<=2000:=by
 obtain⟨i,F⟩:=Bh h;obtain⟨j,y,A,B,E⟩:=ra F;have G:=pd (nY i).1;exact⟨i,j,y,A,B,E,oM⟩
theorem Fu (B:iW d=0) (h:d.size=512) (i:0<=gI) (j:gJ<=(d.gG.length:Int)) (y:3<=gJ) (A:gI<=gJ - 3):iQ d gI gJ=0:=by
 unfold iQ;rw[if_neg (by simp[B]),if_neg (by rw[AR h i j y A];decide)]
theorem BQ (E:iQ d gI gJ=0) (h:Shape d e):iQ e gI gJ=0:=by
 obtain⟨F,i,j,y,A,B,G⟩:=xj E;exact Fu h.1 (by rw[h.2.1];exact i) j (by rw[h.2.2];exact y) A B
theorem nW.qN (h:nW t) (e:t=cy n):kM n:=by
 obtain⟨⟨k,i⟩,j⟩:=h n e;exact i.qN (cP _) (cP _)
section
variable {d e:ik} {gI gJ:Int} {V:Nat} {t t':Option Nd}
theorem k5.bd (h:k5 d gI gJ V t):iW d=0/\d.size=512/\0<=gI/\gJ<=(d.gG.length:Int)/\3<=gJ/\gI<=gJ - 3/\d.gG.length<=2000:=xj h.fit
theorem LM (h: ∀m∈k9 t,gI+2<=m.page/\m.page<gJ/\gQ d m.page=iy m) (i:0<=gI) (j:gJ<=2000):
  ((iA t).toNat=0/\t=cC\/(gI+2<=((iA t).toNat:Int)/\((iA t).toNat:Int)<gJ))/\((iA t).toNat:Int)=iA t/\(iA t).toNat<=2000:=by
 cases t with
 | none=>exact⟨.inl ⟨rfl,rfl⟩,rfl,by simp[iA]⟩
 | some n=>have:=h n (tI n);simp only[iA];exact⟨.inr oM,oM,oM⟩
theorem k5.gN (h:k5 d gI gJ V t):((iA t).toNat=0/\t=cC\/(gI+2<=((iA t).toNat:Int)/\((iA t).toNat:Int)<gJ))/\((iA t).toNat:Int)=iA t/\(iA t).toNat<=2000:=
 LM h.gG (by have:=h.bd;omega) (by have:=h.bd;omega)
theorem k5.LN (h:k5 d gI gJ V t) {n:Nd} (j:t=cy n):qA (gQ d) n:=fun m i=>by
 have y:=h.bd;obtain⟨a,b,c⟩:=h.gG m (Fo.2 ⟨n,j,i⟩);exact⟨c,by unfold uk;omega⟩
theorem k5.nodup (h:k5 d gI gJ V t) {n:Nd} (i:t=cy n):(n.pre.map Nd.page).Nodup:=LG (h.tm.qN i) (h.tm n i).2 (h.LN i)
theorem k5.head (h:k5 d gI gJ V t):jY d gI gJ=(V,(iA t).toNat):=by
 have G:=h.iX;obtain⟨E,_,F⟩:=h.gN;have B:(iA t).toNat=0\/(gI+2<=((iA t).toNat:Int)/\((iA t).toNat:Int)<gJ):=E.imp (fun h=>h.1) id;unfold jY;rcases Nat.mod_two_eq_zero_or_one V with i|i;have j:=h.cur;have y:=h.old;rw[i,show(gI+((0:Nat):Int))=gI by simp] at j;rw[show(V+1) % 2=1 by omega,show(gI+((1:Nat):Int))=gI+1 by simp] at y;refine Fe (.inl ⟨by rw[j];exact Fq h.gZ oM i B oM,fun p A=>Fs (v:=p.1) (n:=p.2) y A⟩);have j:=h.cur;have y:=h.old;rw[i,show(gI+((1:Nat):Int))=gI+1 by simp] at j;rw[show(V+1) % 2=0 by omega,show(gI+((0:Nat):Int))=gI by simp] at y;refine Fe (.inr ⟨by rw[j];exact Fq h.gZ oM i B oM,fun p A=>Fs (v:=p.1) (n:=p.2) y A⟩)
theorem k5.tree (h:k5 d gI gJ V t):l5 d gI gJ (iA t).toNat=cy (t,(k9 t).map Nd.page):=by
 obtain⟨A,H,_⟩:=h.gN;have J:=h.bd;unfold l5;cases t with
 | none=>rfl
 | some n=>
  have G: ¬(iA (cy n)).toNat=0:=by rcases A with⟨_,e⟩|A;cases e;omega
  have B:=h.tm.qN rfl;have y:=fun m i=>h.gG m (Fo.2 ⟨n,rfl,i⟩);have j:=h.nodup rfl;have F:n.pre.length<=kT gI gJ:=by
   have:=y5 (gJ - gI - 2).toNat (n.pre.map Nd.page) (gI+2) j fun x I=>by obtain⟨m,i,rfl⟩:=cu.1 I;have:=y m i;omega
   rw[cS] at this;unfold kT;omega
  have E:=Fm (d:=d) (gI:=gI) (gJ:=gJ) oM oM (kT gI gJ) (used:=[]) F B y j oC;rw[if_neg G,H];simp only[iA];rw[E];simp only[c0,k9];rw[if_pos ((xU B).2 ⟨(h.tm n rfl).2,(h.tm n rfl).1⟩)]
theorem k5.read (h:k5 d gI gJ V t):kJ d gI gJ=cy (iP d gI gJ V t,t):=by
 unfold kJ;rw[h.head];simp only;rw[if_neg (by have:=h.gZ;omega),h.tree];simp only[iP];rw[h.gN.2.1,LJ fun p=>(Fp (t:=t) (p:=p)).symm]
theorem k5.opens (h:k5 d gI gJ V t):jF d gI gJ=(iP d gI gJ V t,0):=by
 unfold jF;rw[if_neg (by simp[h.fit]),h.read]
theorem k5.valid (h:k5 d gI gJ V t):n4 (iP d gI gJ V t)=cy t:=by
 unfold n4;rw[if_neg (by rw[show iQ (iP d gI gJ V t).gL (iP d gI gJ V t).gI (iP d gI gJ V t).gJ=0 from h.fit];simp),show kJ (iP d gI gJ V t).gL (iP d gI gJ V t).gI (iP d gI gJ V t).gJ=_ from h.read];simp only;simp
theorem k5.keep (h:k5 d gI gJ V t) (E:Shape d e) (A:e.gH=[]) (j:gQ e (gI+((V % 2:Nat):Int))=gQ d (gI+((V % 2:Nat):Int))) (y:qP 512 V (gQ e (gI+(((V+1) % 2:Nat):Int)))) (B: ∀m∈k9 t,gQ e m.page=gQ d m.page):k5 e gI gJ V t:=
 ⟨BQ h.fit E,A,h.gZ,h.iX,by rw[j];exact h.cur,y,h.tm,fun m i=>by obtain⟨a,b,c⟩:=h.gG m i;exact⟨a,b,by rw[B m i];exact c⟩⟩
theorem k5.next (h:k5 d gI gJ V t) (E:Shape d e) (A:e.gH=[]) (i:gQ e (gI+((V % 2:Nat):Int))=gQ d (gI+((V % 2:Nat):Int))) (j:gQ e (gI+(((V+1) % 2:Nat):Int))=jd 512 (V+1) (iA t').toNat)
  (y:V+1<=200) (F:nW t') (B: ∀m∈k9 t',gI+2<=m.page/\m.page<gJ/\gQ e m.page=iy m):k5 e gI gJ (V+1) t':=by
 refine⟨BQ h.fit E,A,oM,y,j,?_,F,B⟩;rw[show(V+1+1) % 2=V % 2 by omega,i,h.cur];exact Fa oF oM
theorem k5.same (h:k5 d gI gJ V t) (E:Shape d e) (A:e.gH=[]) (B: ∀k:Nat,k<d.gG.length->gQ e k=gQ d k):k5 e gI gJ V t:=by
 have H:=h.bd;have j: ∀i:Int,0<=i->i<d.gG.length->gQ e i=gQ d i:=by intro i F G;obtain⟨k,rfl⟩: ∃k:Nat,i=k:=⟨i.toNat,oM⟩;exact B k oM
 exact h.keep E A (j _ oM oM) (by rw[j _ oM oM];exact h.old) fun m y=>j _ (by have:=h.gG m y;omega) (by have:=h.gG m y;omega)
theorem k5.sW (h:k5 d gI gJ V t) (gP:List Int):k5 (ma d gP) gI gJ V t:=by
 have i:=h.bd.1;refine h.same (zI i gP) (BM i gP) fun k j=>?_;rw[BN i gP j,zH i h.empty j,h.empty,IU,cU,cE j];rfl
theorem k5.far (h:k5 d gI gJ V t) (A:Shape d e) (B:e.gG=d.gG) (F: ∀x∈e.gH,gI+2<=x.page/\x.page<gJ/\ ∀m∈k9 t,m.page≠x.page) (gP:List Int):k5 (ma e gP) gI gJ V t:=by
 have O:=h.bd;have H:=O.1;obtain⟨X,L,M,ad⟩:=nY A.1;have ac:=pd X;have J:0<=e.size:=oM
 have R:=A.trans (zI A.1 gP);have S: ∀k:Nat,k<d.gG.length->(((nG gP e.size 0 e.gH e.gG).getD k cx).size:Int)=d.size:=by intro k j;have:=AB (i:=k) (AD (gP:=gP) J e.gH 0 e.gG L M) (by rw[vG,B];exact j);rw[this,A.2.1]
 have E: ∀i:Int,0<=i->i<d.gG.length->(∀x∈e.gH,x.page≠i)->gQ (ma e gP) i=gQ d i:=by
  intro i aa ab y;obtain⟨k,rfl⟩: ∃k:Nat,i=k:=⟨i.toNat,oM⟩;have j:k<d.gG.length:=oM
  rw[BN A.1 gP (by rw[B];exact j),zH H h.empty j];refine Lu ?_ fun b=>?_;have G:=S k j;have Y:=(nY H).2.1 _ (List.getElem_mem j);omega;have:=Dk (gP:=gP) J k b e.gH 0 e.gG L M (by rw[B];exact j);simp only[B] at this;rw[B];rcases this with G|⟨x,T,U,_⟩;exact G;exact absurd U (y x T)
 refine h.keep R (BM A.1 gP) (E _ oM oM fun x y=>by have:=F x y;omega) ?_ fun m I=>?_;rw[E _ oM oM fun x y=>by have:=F x y;omega];exact h.old;have:=h.gG m I;exact E _ oM oM fun x y e=>(F x y).2.2 m I e.symm
end
def x7 (d:ik) (gI gJ:Int) (V:Nat) (t t':Option Nd) (F:ik) (er:Int):Prop:=
 Shape d F/\(d.left= -1->er=0/\F.left= -1)/\((er=0/\k5 F gI gJ (V+1) t')\/(er=18/\F.left=0/\ ∀gP,k5 (ma F gP) gI gJ V t\/k5 (ma F gP) gI gJ (V+1) t'))
theorem Fv (h:k5 d gI gJ V t) (ag:V+1<=200) (aq:nW t') (az: ∀m∈k9 t',gI+2<=m.page/\m.page<gJ/\gQ d m.page=iy m):
  x7 d gI gJ V t t' (gR d [.wr (gI+(((V+1) % 2:Nat):Int)) (bs (jd 512 (V+1) (iA t').toNat)), .fl]).1 (gR d [.wr (gI+(((V+1) % 2:Nat):Int)) (bs (jd 512 (V+1) (iA t').toNat)), .fl]).2:=by
 have av:=h.bd;have I:=av.1;obtain⟨q,L⟩: ∃q:Nat,gI+(((V+1) % 2:Nat):Int)=q:=⟨(gI+(((V+1) % 2:Nat):Int)).toNat,oM⟩;obtain⟨q0,al⟩: ∃q0:Nat,gI+((V % 2:Nat):Int)=q0:=⟨(gI+((V % 2:Nat):Int)).toNat,oM⟩;have aE:q≠q0:=oM
 have ae:q<d.gG.length:=oM
 have am:q0<d.gG.length:=oM
 obtain⟨G,X⟩:=nM (bs (jd 512 (V+1) (iA t').toNat));have Y:G.data.toList=jd 512 (V+1) (iA t').toNat:=by rw[<-X,q7]
 have aD:G.size=512:=by rw[<-X,lM,tH oF]
 rw[L,X];have M:p9 d (.wr q G):=⟨oM,oM,oM⟩;have ar: ∀(e:ik),(∀k:Nat,k<d.gG.length->k≠q->gQ e k=gQ d k)-> ∀p:Int,gI+2<=p->p<gJ->gQ e p=gQ d p:=by intro e i p af aC;obtain⟨j,rfl⟩: ∃j:Nat,p=j:=⟨p.toNat,oM⟩;exact i j oM oM
 have ay: ∀(e:ik),(∀k:Nat,k<d.gG.length->k≠q->gQ e k=gQ d k)-> ∀m∈k9 t,gQ e m.page=gQ d m.page:=fun e i m R=>ar e i _ (h.gG m R).1 (h.gG m R).2.1;have aj: ∀(e:ik),(∀k:Nat,k<d.gG.length->k≠q->gQ e k=gQ d k)-> ∀m∈k9 t',gI+2<=m.page/\m.page<gJ/\gQ e m.page=iy m:=fun e i m R=>by obtain⟨a,b,c⟩:=az m R;exact⟨a,b,by rw[ar e i _ a b];exact c⟩
 by_cases O:d.left=0
 rw[xe I (by intro o E;rcases j4.1 E with rfl|E;exact M;rw[lx.1 E];trivial) O oC];exact⟨.refl I,fun e=>oM, .inr ⟨rfl,O,fun F=> .inl (h.sW F)⟩⟩;have U:=uY I M O;have y:=uj I M;rw[uZ (by rw[U]),U];rw[U] at y;obtain⟨A,J⟩:=nM (({ jt d with gH:=d.gH++[⟨(q:Int),G⟩] }:ik));simp only[J] at y |-;have aw:A.gH=[⟨(q:Int),G⟩]:=by rw[<-J,h.empty];rfl
 have ab:A.gG=d.gG:=by rw[<-J];rfl
 have aa:A.left=(jt d).left:=by rw[<-J]
 have aA: ∀k:Nat,k<d.gG.length->gQ A k=if k=q then G.data.toList else gQ d k:=by
  intro k i;have:=zD I M O i;rw[U,J] at this;simp only at this;rw[this]
  by_cases B:k=q
  rw[if_pos oM,if_pos B];rw[if_neg oM,if_neg B]
 by_cases H:A.left=0
 rw[xe y.1 (by intro o E;rw[lx.1 E];trivial) H oC];refine⟨y,fun e=>?_, .inr ⟨rfl,H,fun F=>?_⟩⟩;rw[aa] at H;unfold jt at H;simp only at H;rw[if_neg oM] at H;omega;have ap:=y.trans (zI y.1 F);have ah:=BM y.1 F;obtain⟨n,ax⟩:=nM ((sr F 0 A.size).toNat);have S: ∀k:Nat,k<d.gG.length->gQ (ma A F) k=if k=q then G.data.toList.take n++(gQ d k).drop n else gQ d k:=by
  intro k i;rw[BN y.1 F (by rw[ab];exact i),aw,ab];simp only[nG,Int.toNat_natCast];rw[ax]
  by_cases B:k=q
  subst B;rw[if_pos rfl,zH I h.empty i];have au:d.gG.getD k cx=d.gG[k]:=by rw[cU,cE i];rfl
  rw[au,cU,List.getElem?_set_self i];simp only[Option.getD_some];exact Lt _ _ _;rw[if_neg B,cU,List.getElem?_set_ne oM,cE i,zH I h.empty i];rfl
 have ai: ∀k:Nat,k<d.gG.length->k≠q->gQ (ma A F) k=gQ d k:=fun k i B=>by rw[S k i,if_neg B]
 have ak:gQ (ma A F) (gI+((V % 2:Nat):Int))=gQ d (gI+((V % 2:Nat):Int)):=by rw[al,S q0 am,if_neg oM]
 have E:=h.old;rw[L] at E;rcases Ls (n:=(iA t').toNat) (t:=n) oF oM E with T|T;left;refine h.keep ap ah ak ?_ (ay _ ai);rw[L,S q ae,if_pos rfl,Y];exact T;right;refine h.next ap ah ak ?_ ag aq (aj _ ai);rw[L,S q ae,if_pos rfl,Y,cG (by rw[tH oF];exact T),List.drop_of_length_le (by rw[E.1];exact T),List.append_nil];have ac:=tG y.1 H;have aB:=uj y.1 (o:= .fl) trivial;rw[uZ (by rw[ac]),gR];have ad: ∀k:Nat,k<d.gG.length->gQ (mZ A .fl).1 k=if k=q then G.data.toList else gQ d k:=by intro k i;rw[zD y.1 (o:= .fl) trivial H (by rw[ab];exact i)];exact aA k i
 have ao:=y.trans aB;refine⟨ao,fun e=>⟨rfl,?_⟩, .inl ⟨rfl,?_⟩⟩;rw[ac];simp only;have af:(jt d).left= -1:=by unfold jt;simp only;rw[if_neg oM];exact e
 rw[af] at aa;unfold jt;simp only;rw[if_neg oM];exact aa;refine h.next ao (by rw[ac]) ?_ ?_ ag aq (aj _ fun k i B=>by rw[ad k i,if_neg B]);rw[al,ad q0 am,if_neg oM];rw[L,ad q ae,if_pos rfl,Y]
theorem LO (h:k5 d gI gJ V t) (B: ∀x∈ws,gI+2<=x.page/\x.page<gJ/\x.data.size=512/\ ∀m∈k9 t,m.page≠x.page) (aq:(ws.map PW.page).Nodup) (G:ws.map oW=ops):
    Shape d (gR d (ops++[.fl])).1/\(d.left= -1->(gR d (ops++[.fl])).2=0/\(gR d (ops++[.fl])).1.left= -1)/\
    (((gR d (ops++[.fl])).2=0/\k5 (gR d (ops++[.fl])).1 gI gJ V t/\ ∀x∈ws,gQ (gR d (ops++[.fl])).1 x.page=x.data.data.toList)\/
     ((gR d (ops++[.fl])).2=18/\(gR d (ops++[.fl])).1.left=0/\ ∀gP,k5 (ma (gR d (ops++[.fl])).1 gP) gI gJ V t))/\
    ∀k:Nat,k<d.gG.length->(∀x∈ws,x.page≠k)->gQ (gR d (ops++[.fl])).1 k=gQ d k:=by
  have ak:=h.bd;have E:=ak.1;have O: ∀o∈ops,p9 d o:=by rw[<-G];intro o j;obtain⟨x,y,rfl⟩:=cu.1 j;have:=B x y;exact⟨oM,oM,oM⟩
  have R: ∀o∈ops++[lJ.fl],p9 d o:=by
    intro o j;rcases jD.1 j with j|j
    · exact O o j
    · rw[lx.1 j];trivial
  have af:=BJ ws E (fun x y=>O _ (by rw[<-G];exact cu.2 ⟨x,y,rfl⟩));rw[G] at af;obtain⟨aB,az,U,au,ag⟩:=af;have H:=(x4 (ops:=ops) E O).1;have ah:=(x4 (ops:=ops++[.fl]) E R).1;rw[h.empty,c0] at U;have X: ∀e:ik,e=(gR d ops).1-> ∀gP,k5 (ma e gP) gI gJ V t:=by rintro e rfl gP;refine h.far H au (fun x y=>?_) gP;rw[U] at y;obtain⟨a,b,c,ai⟩:=B x (List.mem_of_mem_take y);exact⟨a,b,ai⟩
  have ae: ∀i data,lJ.wr i data∈ops++[lJ.fl]-> ∃x∈ws,x.page=i/\x.data=data:=by
    intro i data j;rcases jD.1 j with j|j
    · rw[<-G] at j
      obtain⟨x,y,e⟩:=cu.1 j;simp only[oW,lJ.wr.injEq] at e;exact⟨x,y,e.1,e.2⟩
    · rw[lx] at j;cases j
  have aa: ∀k:Nat,k<d.gG.length->(∀x∈ws,x.page≠k)->gQ (gR d (ops++[.fl])).1 k=gQ d k:=by intro k ao ar;refine zE E R ao fun i data j e=>?_;obtain⟨x,y,I,_⟩:=ae i data j;exact ar x y (I.trans e)
  refine⟨ah,?_,?_,aa⟩
  · intro e
    rcases ag with⟨J,am,ac⟩|⟨L,ab,ad⟩
    · have A:gR d (ops++[.fl])=gR (gR d ops).1 [.fl]:=by rw[xf,if_neg (by simp[J])]
      have ap:=ac e;have F:=tG H.1 oM;rw[uZ (by rw[F]),gR] at A;refine⟨by rw[A],?_⟩;rw[A,F];simp only;unfold jt;simp only;rw[if_neg oM];exact ap
    · exact absurd e ad
  · rcases ag with⟨J,am,ac⟩|⟨L,ab,ad⟩
    · have A:gR d (ops++[.fl])=gR (gR d ops).1 [.fl]:=by rw[xf,if_neg (by simp[J])]
      by_cases S:(gR d ops).1.left=0
      · rw[xe H.1 (by intro o j;rw[lx.1 j];trivial) S oC] at A
        exact .inr ⟨by rw[A],by rw[A];exact S,fun gP=>X _ (by rw[A]) gP⟩
      · have F:=tG H.1 S
        rw[uZ (by rw[F]),gR] at A;have Y:(gR d (ops++[.fl])).2=0:=by rw[A]
        have al:(gR d (ops++[.fl])).1.gH=[]:=by rw[A,F]
        have M: ∀i:Int,0<=i->i<d.gG.length->(∀x∈ws,x.page≠i)->gQ (gR d (ops++[.fl])).1 i=gQ d i:=by intro i ax ay y;obtain⟨k,rfl⟩: ∃k:Nat,i=k:=⟨i.toNat,oM⟩;exact aa k oM y
        refine .inl ⟨Y,?_,fun x y=>?_⟩
        · refine h.keep ah al (M _ oM oM fun x y=>by have:=B x y;omega) ?_ fun m j=>?_
          · rw[M _ oM oM fun x y=>by have:=B x y;omega]
            exact h.old
          · have:=h.gG m j
            exact M _ oM oM fun x y e=>(B x y).2.2.2 m j e.symm
        · have aA:=B x y
          obtain⟨q,T⟩: ∃q:Nat,x.page=q:=⟨x.page.toNat,oM⟩;rw[T];refine zF E R oM Y (fun i data j e=>?_) (.inr ⟨q,x.data,?_,rfl⟩)
          · obtain⟨aw,av,I,aj⟩:=ae i data j
            have:aw=x:=LH aq av y (by rw[I,e,T]);rw[<-this,aj]
          · rw[<-G, <-T]
            exact cK _ (cu.2 ⟨x,y,rfl⟩)
    · have A:gR d (ops++[.fl])=gR d ops:=by rw[xf,if_pos (by rw[L];decide)]
      exact .inr ⟨by rw[A];exact L,by rw[A];exact ab,fun gP=>X _ (by rw[A]) gP⟩
structure pI (w W:cL) (C:Array cV) (N B1 Z km:Nat) (f:ByteArray->Option Int) (fo:Option Addr) (fc:Nat) (tv:cV) (un:Nat) (p:kq) (used:List Int) (o:Option AT):Prop where
 xN:Bx W N C 33
 xR:Bx W (N+1) jW 33
 below:dm w.heap.size w W
 pl:se W B1 (Z+1+1) Z (Z+1) km f fo fc tv un p used
 tr: ∀t,o=cy t->h9 B1 W t/\t.fp.Nodup
 b1:B1<=W.heap.size
 hN:N+1<B1
 hw:w.heap.size=N
 hZ:B1<=Z
theorem x8 {o:Option AT} {y:Nat}:y∈pM o↔ ∃t,o=cy t/\y∈t.fp:=by
 cases o with
 | none=>simp[pM]
 | some t=>simp[pM]
section
variable {w W W':cL} {C:Array cV} {N B1 Z km:Nat} {f:ByteArray->Option Int} {fo:Option Addr} {fc:Nat} {tv:cV} {un:Nat} {p:kq} {used:List Int} {o o':Option AT}
theorem pI.next (h:pI w W C N B1 Z km f fo fc tv un p used o) (i:dm W.heap.size W W'):pI w W' C N B1 Z km f fo fc tv un p used o:=
 ⟨h.xN.gD i,h.xR.gD i,iq h.below i,h.pl.keep ((gS.refl [] W).ic i) oC h.b1 oC oC oC oC,fun t j=>⟨(h.tr t j).1.ij i,(h.tr t j).2⟩,jU h.b1 i.size,h.hN,h.hw,h.hZ⟩
theorem pI.wA (h:pI w W C N B1 Z km f fo fc tv un p used o): ∀y∈pM o,B1<=y:=fun y i=>by
 obtain⟨t,j,i⟩:=x8.1 i;exact((h.tr t j).1.lt y i).1
theorem pI.gN (h:pI w W C N B1 Z km f fo fc tv un p used o) {r:Option Nd} {e:Ending} (R:ni B1 W o r e W'): ∃o',e= .returned (jP o')/\o'.map (fun t=>t.nd.er)=r/\pI w W' C N B1 Z km f fo fc tv un p used o':=by
 obtain⟨o',L,i,M,-,hK⟩:=R;have B:=h.wA;have S:=h.hN;have F: ∀b,b<B1->b∉pM o:=fun b E j=>by have:=B b j;omega
 have A: ∀t,o=cy t->Z+1+1∉t.fp/\Z∉t.fp/\Z+1∉t.fp/\(∀g,tv.ownBlock=cy g->g∉t.fp):=fun t i=>by obtain⟨G,H,I,J,-⟩:=h.pl.apart (h.tr t i).1;exact⟨G,H,I,J⟩
 refine⟨o',L,M,hK.bx h.xN (F N oM),hK.bx h.xR (F _ oM),hK.below h.below h.below.size fun b E=>?_,?_,i,jU h.b1 hK.2.2.2.1,h.hN,h.hw,h.hZ⟩;have:=B b E;have:=h.hw;omega;refine h.pl.keep hK B h.b1 (fun j=>?_) (fun j=>?_) (fun j=>?_) fun g O j=>?_;obtain⟨t,i,y⟩:=x8.1 j;exact(A t i).1 y;obtain⟨t,i,y⟩:=x8.1 j;exact(A t i).2.1 y;obtain⟨t,i,y⟩:=x8.1 j;exact(A t i).2.2.1 y;obtain⟨t,i,y⟩:=x8.1 j;exact(A t i).2.2.2 g O y
end
theorem BR: ∀(ops:List lJ) (d:ik),(gR d ops).1.gH.length<=d.gH.length+ops.length
 | [],d=>by rw[gR];simp
 | o::ops,d=>by rw[gR];have h:=y9 (d:=d) (o:=o);split;rw[j1];omega;have:=BR ops (mZ d o).1;rw[j1];omega
def qQ (x:Ix) (gN:Int):PW:=⟨x.gI+(x.gZ+1).tmod 2,bs (jd 512 (x.gZ+1).toNat gN.toNat)⟩
theorem Fw (x:Ix) (gN:Int):n5 x [] gN=j0 [qQ x gN]:=rfl
theorem BS (gN:Int) (h:ws≠[]):n5 x ws gN=j0 ws++j0 [qQ x gN]:=by
 unfold n5;rw[if_neg h];rfl
theorem LP (gN:Int) (h:ws≠[]) {e:Int} (j:gR x.gL (j0 ws)=(D,e)) (i:e≠0):gR x.gL (n5 x ws gN)=(D,e):=by
 rw[BS gN h,E5,j,if_pos i]
theorem LQ (gN:Int) (h:ws≠[]) (i:gR x.gL (j0 ws)=(D,0)):gR x.gL (n5 x ws gN)=gR D (j0 [qQ x gN]):=by
 rw[BS gN h,E5,i,if_neg oC]
def jK:cV->Option Addr| ht o _ _=>o|_=>cC
def j3:cV->Nat| ht _ _ c=>c|_=>0
def oh (L:List Int):mS:=⟨fun r=> ht (jK (r.x 0)) L.length (j3 (r.x 0)),fun r W=>jk (jK (r.x 0)) L.length (j3 (r.x 0))/\jQ W (jK (r.x 0)) L⟩
theorem rQ {f:FuncId} {args:Array cV} {L:List Int} {W:cL} (h:Calls cY f args W fun e w'=> ∃o c,e= .returned (ht o L.length c)/\w'.ownsRow W.heap.size 3 1 (ht o L.length c) L.length (jI L)/\dm W.heap.size W w'):
  Calls cY f args W fun e w'=> ∃u,e= .returned u/\pR (oh L) W u w':=
 h.mono fun _ w' ⟨o,c,he,ho,hb⟩=>⟨_,he,hb,fun _=> ht o L.length c,rfl,fun y i=>⟨by
  obtain⟨o',c',e,j,-,-⟩:=nC ho;obtain⟨rfl,rfl⟩:o=o'/\c=c':=by simpa using e
  exact j,(jQ.own ho).below i⟩⟩
def rR (gI gJ gZ:Int) (L:List Int):mS:=⟨fun r=> .agg #[gE ha 0, ht cC 0 0, ht cC 0 0, gE ha 0, gE ha gI, gE ha gJ, gE ha gZ, gE ha 0, ht (jK (r.x 0)) L.length (j3 (r.x 0))],fun r W=>jk (jK (r.x 0)) L.length (j3 (r.x 0))/\jQ W (jK (r.x 0)) L⟩
def x9 (t:TypeId) (cs:Array cV):mS:=⟨fun r=> .pointer (cy ⟨r.lo,0,cC⟩),fun r W=>Bx W r.lo cs t⟩
theorem Fx {t:TypeId} (w:cL):pR (x9 t cs) w (.pointer (cy ⟨w.heap.size,0,cC⟩)) (w.alloc (hE cs t)):=
 ⟨Below.one _ _,fun _=>undef,rfl,fun _ h=>(Bx.new w cs t).gD h⟩
structure nN (w W:cL) (C CP:Array cV) (N pb:Nat) (o:Option Addr) (c:Nat) (ws:List PW):Prop where
 xN:Bx W N C 33
 xR:Bx W (N+1) jW 33
 xP:Bx W pb CP 121
 below:dm w.heap.size w W
 pw:iV (· <W.heap.size) W o ws
 hw:w.heap.size=N
theorem iV.only {w w':cL} {o:Option Addr} {l:List PW} {t:TypeId} (h:iV (· <w.heap.size) w o l) (I:Bx w r cs t) (H:sA cs) (j:Only r w w'):iV (· <w'.heap.size) w' o l:=by
 have A:=h.apart I H;refine iV.mono (S:=fun b=>b<w.heap.size/\b≠r) ?_ fun b B=>iU B.1 j.1;intro J G;obtain⟨b,L,e,E,F,y⟩:=A J G;have i:=j.2 b y.2;exact⟨b,L,e,by rw[<-E];simp[World.cell?,i],by rw[<-F];simp[World.cell?,i],y⟩
section
variable {w W W':cL} {C CP:Array cV} {N pb:Nat} {o:Option Addr} {c:Nat} {ws:List PW}
theorem nN.next (h:nN w W C CP N pb o c ws) (i:dm W.heap.size W W'):nN w W' C CP N pb o c ws:=
 ⟨h.xN.gD i,h.xR.gD i,h.xP.gD i,iq h.below i,(h.pw.below i).mono fun _ j=>iU j i.size,h.hw⟩
theorem nN.only (h:nN w W C CP N pb o c ws) {r:Nat} {cs:Array cV} {t:TypeId} (F:Bx W r cs t) (E:sA cs) (i:Only r W W') (B:dm w.heap.size w W') (j:r≠N) (y:r≠N+1) (A:r≠pb):nN w W' C CP N pb o c ws:=
 ⟨h.xN.only i fun e=>j e.symm,h.xR.only i fun e=>y e.symm,h.xP.only i fun e=>A e.symm,B,h.pw.only F E i,h.hw⟩
end
def o7 (look:List UInt8->Option Int) (p q:kq) (l:List Nd):Prop:=
 ∃new:List PW,q.ws=p.ws++new/\p.free=new.map PW.page++q.free/\(∀m∈l,look (iy m)=cy m.page\/(⟨m.page,bs (iy m)⟩:PW)∈new)/\ ∀w∈new,∃m∈l,w=⟨m.page,bs (iy m)⟩
theorem o7.trans {r:kq} {l m:List Nd} (h:o7 look p q l) (k:o7 look q r m):o7 look p r (l++m):=by
 obtain⟨a,A,B,E,F⟩:=h;obtain⟨b,G,H,I,J⟩:=k;refine⟨a++b,by rw[G,A,cA],by rw[B,H,dA,cA],fun x j=>?_,fun w i=>?_⟩;rcases jD.1 j with j|j;exact(E x j).imp id fun h=>cK _ h;exact(I x j).imp id fun h=>dh _ h;rcases jD.1 i with i|i;obtain⟨m,y,e⟩:=F w i;exact⟨m,cK _ y,e⟩;obtain⟨m,y,e⟩:=J w i;exact⟨m,dh _ y,e⟩
theorem o7.perm {l m:List Nd} (h:o7 look p q l) (i: ∀x,x∈m↔x∈l):o7 look p q m:=by
 obtain⟨a,y,A,B,E⟩:=h;exact⟨a,y,A,fun x G=>B x ((i x).1 G),fun w F=>by obtain⟨j,H,e⟩:=E w F;exact⟨j,(i j).2 H,e⟩⟩
theorem Fy (y: ∀k∈ks,∀p A q,l7 look k p=cy (A,q)->o7 look p q A.pre):
  ∀{p:kq} {j:List Nd} {q:kq},lB look ks p=cy (j,q)->o7 look p q (j.map Nd.pre).flatten:=by
 induction ks with
 | nil=>intro p j q h;rw[lB] at h;simp only[cD,cF] at h;obtain⟨rfl,rfl⟩:=h;exact⟨[],oC,oC,fun m i=>by simp at i,fun m i=>by cases i⟩
 | cons k ks F=>intro p j q h;rw[lB] at h;split at h;cases h;rename_i G H B;obtain⟨⟨m,I⟩,i,e⟩:=dF.1 h;simp only[cF] at e;obtain⟨rfl,rfl⟩:=e;rw[cw,cz];exact(y k oC _ _ _ B).trans (F (fun x E=>y x (by simp[E])) i)
theorem BU: ∀(n:Nd) (p:kq) (B:Nd) (q:kq),l7 look n p=cy (B,q)->o7 look p q B.pre:=by
 intro n
 induction n using Nd.ind with
 | h y M O J=>
  intro p B q h;rw[sF] at h;simp only[Nd.gC,Nd.ps] at h;split at h;cases h;rename_i ks A G;have F:=Fy J G;split at h;focus rename_i g I;simp only[cD,cF] at h;obtain⟨rfl,rfl⟩:=h;have E:o7 look A A [Nd.mk y ks g]:=⟨[],oC,oC,fun m i=>by rw[lx] at i;subst i;exact .inl I,fun w j=>by cases j⟩
  rotate_left;focus
   rename_i L;split at h;cases h;focus
    rename_i g r H;simp only[cD,cF] at h;obtain⟨rfl,rfl⟩:=h;have E:o7 look A ⟨r,A.ws++[⟨g,bs (iy (.mk y ks 0))⟩]⟩ [Nd.mk y ks g]:=⟨[⟨g,bs (iy (.mk y ks 0))⟩],rfl,by rw[H];rfl,fun m i=>by
     rw[lx] at i;subst i;exact .inr (by simp[Nd.page];rfl),fun w j=>by
     rw[lx] at j;exact⟨_,lx.2 rfl,j⟩⟩
  all_goals refine(F.trans E).perm fun x=>?_;rw[Nd.jy,jD,lx,j4,Or.comm];rfl
theorem LR (j: ∀k∈ks,∀p,l7 look k p=cC->p.free.length<k.pre.length):
  ∀{p:kq},lB look ks p=cC->p.free.length<(ks.map Nd.pre).flatten.length:=by
 induction ks with
 | nil=>intro p h;rw[lB] at h;cases h
 | cons k ks F=>intro p h;rw[cw,cz,iI];rw[lB] at h;split at h;rename_i i;have:=j k oC p i;omega;rename_i H J i;have G:=F (fun x E=>j x (by simp[E])) (dG.1 h);obtain⟨I,y,A,_,_⟩:=BU _ _ _ _ i;have B:=wk _ _ _ _ i;rw[y,iI] at B;rw[A,iI,cS];omega
theorem LS: ∀(n:Nd) (p:kq),l7 look n p=cC->p.free.length<n.pre.length:=by
 intro n
 induction n using Nd.ind with
 | h L H J G=>intro p h;rw[sF] at h;rw[Nd.jy,j1];simp only[Nd.gC,Nd.ps] at h |-;split at h;rename_i i;have:=LR G i;omega;rename_i ks M i;obtain⟨I,A,B,_,_⟩:=Fy (fun k _ p y q j=>BU k p y q j) i;have E:=zq (fun k _ p y q j=>wk k p y q j) i;rw[A,iI] at E;split at h;cases h;split at h;rename_i F;rw[B,F,iI,cS,dd];omega;cases h
def uq (ps:List Kv) (l:List ju):List Kv:=l.foldl (fun ps c=>if c.kp then iN ps (c.key,c.new) else l6 ps c.key) ps
theorem ya: ∀{l:List ju} {o:Option Nd},nW o->(∀c∈l,k6 (c.key,c.new))->jz (l.foldl j6 o)=uq (jz o) l
 | [],_,_,_=>rfl
 | c::l,o,h,hk=>by obtain⟨i,j⟩:=EO h fun _=>hk c oC;rw[de,ya i fun x y=>hk x (by simp[y]),j];rfl
theorem BV (o:Option Nd):jz (o.map Nd.er)=jz o:=by
 cases o with
 | none=>rfl
 | some n=>exact Nd.lS n
theorem Fz (h:lC n):(iy n).length=512:=by
 have:=BC h;unfold iy jg;rw[iI,di];omega
theorem LU (h:a.er=b.er) (y:(∃k,Tm 1 2 k b)/\jZ b.iv):(∃k,Tm 1 2 k a)/\jZ a.iv:=by
 obtain⟨⟨k,i⟩,j⟩:=y;refine⟨⟨k,Tm.lT.1 (by rw[h];exact Tm.lT.2 i)⟩,?_⟩;rw[<-Nd.lS a,h,Nd.lS b];exact j
structure vd (d:ik) (gI gJ:Int) (t t':Option Nd) (ws:List PW) (ps:List Kv):Prop where
 tm:nW t'
 iv:jz t'=ps
 far: ∀x∈ws,gI+2<=x.page/\x.page<gJ/\x.data.size=512/\ ∀m∈k9 t,m.page≠x.page
 nodup:(ws.map PW.page).Nodup
 at_: ∀m∈k9 t',gI+2<=m.page/\m.page<gJ/\((∃k∈k9 t,k.page=m.page/\iy k=iy m)\/(⟨m.page,bs (iy m)⟩:PW)∈ws)
theorem FA {s:List UInt8} (h:sU t (bs s)=cy g): ∃k∈k9 t,k.page=g/\iy k=s:=by
 cases t with
 | none=>cases h
 | some n=>rcases zB h with h|⟨m,y,i,j⟩;cases h;exact⟨m,y,j,yF i⟩
theorem LV (h:g∈(iP d gI gJ V t).free):gI+2<=g/\g<gJ/\ ∀m∈k9 t,m.page≠g:=by
 obtain⟨i,j,y⟩:=E7 h;refine⟨i,j,fun m A e=>y ?_⟩;rw[Fp];exact cu.2 ⟨m,A,e⟩
theorem FB (h:nW t) (B: ∀c∈l,k6 (c.key,c.new)) (i:kO (iP d gI gJ V t) t l=cC):(iP d gI gJ V t).free.length<(uq (jz t) l).length:=by
 unfold kO at i;obtain⟨y,_⟩:=xY h.er B;have j:=ya h.er B;rw[BV] at j;cases A:l.foldl j6 (t.map Nd.er) with
 | none=>rw[A] at i;cases i
 | some n=>rw[A] at i y j;have E:=LS _ _ (dG.1 i);obtain⟨⟨k,F⟩,_⟩:=y n rfl;have G:=F.cnt1;simp only at E;rw[<-j];simp only[jz];omega
theorem LX (h:k5 d gI gJ V t) (L: ∀c∈l,k6 (c.key,c.new)) (y:kO (iP d gI gJ V t) t l=cy (t',p)):vd d gI gJ t t' p.ws (uq (jz t) l):=by
 unfold kO at y;have ae:=h.bd;obtain⟨F,_⟩:=xY h.tm.er L;have A:=ya h.tm.er L;rw[BV] at A;cases G:l.foldl j6 (t.map Nd.er) with
 | none=>rw[G] at y A;simp only[cD,cF] at y;obtain⟨rfl,rfl⟩:=y;exact⟨(fun n e=>by cases e),A,(fun x i=>by cases i),c5,fun m j=>by cases j⟩
 | some n=>
  rw[G] at y F A;obtain⟨⟨n',q⟩,O,e⟩:=dF.1 y;simp only[cF] at e;obtain⟨rfl,rfl⟩:=e;have I:=(uT _ _ _ _ O).1;have R:=LU I (F n rfl);have ac:n'.iv=uq (jz t) l:=by rw[<-A];simp only[jz];rw[<-Nd.lS n',I,Nd.lS]
  obtain⟨S,B,E,T,U⟩:=BU _ _ _ _ O;simp only[c0] at B E;have J: ∀x∈S,gI+2<=x.page/\x.page<gJ/\ ∀m∈k9 t,m.page≠x.page:=fun x i=>LV (V:=V) (d:=d) (by rw[E];exact cK _ (cu.2 ⟨x,i,rfl⟩));have H: ∀m∈n'.pre,gI+2<=m.page/\m.page<gJ/\((∃k∈k9 t,k.page=m.page/\iy k=iy m)\/(⟨m.page,bs (iy m)⟩:PW)∈S):=fun m j=>by rcases T m j with g|g;obtain⟨k,M,aa,ab⟩:=FA g;have:=h.gG k M;exact⟨oM,oM, .inl ⟨k,M,aa,ab⟩⟩;have:=J _ g;exact⟨this.1,this.2.1, .inr g⟩
  have ad:kM n':=by obtain⟨⟨k,X⟩,_⟩:=R;exact X.qN (cP _) (cP _)
  refine⟨fun m e=>by cases e;exact R,ac,fun x i=>?_,?_,?_⟩;rw[B] at i;obtain⟨a,b,c⟩:=J x i;refine⟨a,b,?_,c⟩;obtain⟨m,j,rfl⟩:=U x i;rw[lM];refine Fz ((wz ad j).rO fun c Y=>?_);have:=H c (Fi j (u9 Y (tI c)));omega;rw[B];have:=LL gI gJ (lh t);rw[show mv gI gJ (lh t)=(iP d gI gJ V t).free from rfl,E] at this;exact(c7.1 this).1;rw[B];exact H
structure qb (d:ik) (gI gJ:Int) (V:Nat) (t t':Option Nd) (R:Ix×Int):Prop where
 shape:Shape d R.1.gL
 full:d.left= -1->R.2=0/\R.1.gL.left= -1
 res:(R.2=0/\k5 R.1.gL gI gJ (V+1) t'/\R.1=iP R.1.gL gI gJ (V+1) t')\/
  (R.2=18/\R.1.gL.left=0/\R.1={ iP d gI gJ V t with gL:=R.1.gL }/\ ∀gP,k5 (ma R.1.gL gP) gI gJ V t\/k5 (ma R.1.gL gP) gI gJ (V+1) t')
 gG: ∀k:Nat,k<d.gG.length->((k:Int)<gI\/gJ<=k)->gQ R.1.gL k=gQ d k
 gH: ∀x∈R.1.gL.gH,gI<=x.page/\x.page<gJ
 few:R.1.gL.gH.length<=3000
theorem FC: ∀{ops:List lJ} {d:ik} {x:PW},iW d=0->(∀o∈ops,p9 d o)->x∈(gR d ops).1.gH->x∈d.gH\/lJ.wr x.page x.data∈ops
 | [],_,_,_,_,hx=> .inl hx
 | o::r,d,x,h,g,hx=>by
  have E:=uj h (g o oC);have F: ∀y∈(mZ d o).1.gH,y∈d.gH\/lJ.wr y.page y.data=o:=by
   intro y i
   by_cases B:d.left=0
   rw[xZ h (g o oC) B] at i;exact .inl i;cases o with
   | wr H data=>rw[uY h (g _ oC) B] at i;rcases jD.1 i with i|i;exact .inl i;rw[lx.1 i];exact .inr rfl
   | fl=>rw[tG h B] at i;cases i
  rw[gR] at hx;split at hx;rcases F x hx with j|j;exact .inl j;exact .inr (by rw[j];simp);rcases FC (ops:=r) E.1 (fun o' G=>(g o' (by simp[G])).of E.2.2 E.2.1) hx with j|j;rcases F x j with A|A;exact .inl A;exact .inr (by rw[A];simp);exact .inr (by simp[j])
theorem LY (ws:List PW) (r:Int):n5 (iP d gI gJ V t) ws r=(if ws=[] then [] else ws.map oW++[.fl])++[.wr (gI+(((V+1) % 2:Nat):Int)) (bs (jd 512 (V+1) r.toNat)), .fl]:=by
 unfold n5 iP;simp only;rw[Int.tmod_eq_emod_of_nonneg oM];have:((V:Int)+1).toNat=V+1:=oM
 rw[this];congr 1
theorem LZ (h:k5 d gI gJ V t) (ag:V+1<=200) {ps:List Kv} (G:vd d gI gJ t t' ws ps) {R:Ix×Int} {F:ik} {er:Int} (A:gR d (n5 (iP d gI gJ V t) ws (iA t'))=(F,er))
  (O:R=if er≠0 then ({ iP d gI gJ V t with gL:=F },er) else (iP F gI gJ (V+1) t',0)):qb d gI gJ V t t' R:=by
 have ar:=h.bd;have ah:=ar.1;rw[LY] at A;have ao: ∀(e:ik),(∀m∈k9 t,gQ e m.page=gQ d m.page)->(∀x∈ws,gQ e x.page=x.data.data.toList)-> ∀m∈k9 t',gI+2<=m.page/\m.page<gJ/\gQ e m.page=iy m:=by intro e au av m i;obtain⟨a,b,c⟩:=G.at_ m i;refine⟨a,b,?_⟩;rcases c with⟨k,E,T,U⟩|c;rw[<-T,au k E,(h.gG k E).2.2,U];have:=av _ c;simpa using this
 have key:x7 d gI gJ V t t' F er/\ ∀k:Nat,k<d.gG.length->((k:Int)<gI\/gJ<=k)->gQ F k=gQ d k:=by
  have al: ∀e:ik,Shape d e-> ∀k:Nat,k<e.gG.length->((k:Int)<gI\/gJ<=k)->gQ (gR e [.wr (gI+(((V+1) % 2:Nat):Int)) (bs (jd 512 (V+1) (iA t').toNat)), .fl]).1 k=gQ e k:=by intro e Y k E I;have aG:=Y.2.2;have aH:=Y.2.1;refine zE Y.1 (fun o j=>?_) E fun aI data i=>?_;rcases j4.1 j with rfl|j;exact⟨oM,oM,by rw[lM,tH oF];omega⟩;rw[lx.1 j];trivial;rcases j4.1 i with e|e;simp only[lJ.wr.injEq] at e;rw[e.1];omega;rw[lx] at e;cases e
  by_cases aa:ws=[]
  rw[if_pos aa,c0] at A;have:=Fv h ag G.tm (ao d (fun _ _=>rfl) fun x H=>by rw[aa] at H;cases H);rw[A] at this;refine⟨this,fun k E I=>?_⟩;have:=al d (.refl ah) k E I;rw[A] at this;exact this;rw[if_neg aa,xf] at A;obtain⟨M,S,az,aw⟩:=LO h G.far G.nodup rfl;have X: ∀k:Nat,k<d.gG.length->((k:Int)<gI\/gJ<=k)->gQ (gR d (ws.map oW++[.fl])).1 k=gQ d k:=fun k E I=>aw k E fun x H e=>by have:=G.far x H;omega
  rcases az with⟨B,af,aq⟩|⟨B,am,aj⟩;rw[if_neg (by simp[B])] at A;have ay: ∀m∈k9 t,gQ (gR d (ws.map oW++[.fl])).1 m.page=gQ d m.page:=fun m i=>by have:=h.gG m i;rw[(af.gG m i).2.2,this.2.2]
  have:=Fv af ag G.tm (ao _ ay aq);rw[A] at this;obtain⟨aB,aC,aD⟩:=this;refine⟨⟨M.trans aB,fun e=>aC (S e).2,aD⟩,fun k E I=>?_⟩;have L:=al _ M k (by rw[M.2.2];exact E) I;rw[A] at L;rw[L];exact X k E I;rw[if_pos (by rw[B];decide)] at A;have T:(gR d (ws.map oW++[.fl])).1=F:=by rw[A]
  have U:(gR d (ws.map oW++[.fl])).2=er:=by rw[A]
  rw[T] at M am aj X S;rw[U] at B S;exact⟨⟨M,fun e=>by have:=(S e).1;rw[B] at this;exact absurd this oF, .inr ⟨B,am,fun aE=> .inl (aj aE)⟩⟩,X⟩
 obtain⟨⟨ac,L,y⟩,ad⟩:=key;have ai: ∀J∈F.gH,gI<=J.page/\J.page<gJ:=by
  intro J ab;have ax: ∀o∈((if ws=[] then [] else ws.map oW++[lJ.fl])++[lJ.wr (gI+(((V+1) % 2:Nat):Int)) (bs (jd 512 (V+1) (iA t').toNat)), .fl]),p9 d o:=by intro o j;rcases jD.1 j with j|j;split at j;cases j;rcases jD.1 j with j|j;obtain⟨x,H,rfl⟩:=cu.1 j;have:=G.far x H;exact⟨oM,oM,oM⟩;rw[lx.1 j];trivial;rcases j4.1 j with rfl|j;exact⟨oM,oM,by rw[lM,tH oF];omega⟩;rw[lx.1 j];trivial
  have aA:J∈(gR d ((if ws=[] then [] else ws.map oW++[lJ.fl])++[lJ.wr (gI+(((V+1) % 2:Nat):Int)) (bs (jd 512 (V+1) (iA t').toNat)), .fl])).1.gH:=by rw[A];exact ab
  rcases FC ah ax aA with i|i;rw[h.empty] at i;cases i;rcases jD.1 i with i|i;split at i;cases i;rcases jD.1 i with i|i;obtain⟨x,H,e⟩:=cu.1 i;simp only[oW,lJ.wr.injEq] at e;have:=G.far x H;omega;rw[lx] at i;cases i;rcases j4.1 i with e|e;simp only[lJ.wr.injEq] at e;omega;rw[lx] at e;cases e
 have ak:F.gH.length<=3000:=by
  have ae:=BR ((if ws=[] then [] else ws.map oW++[lJ.fl])++[lJ.wr (gI+(((V+1) % 2:Nat):Int)) (bs (jd 512 (V+1) (iA t').toNat)), .fl]) d;rw[A,h.empty] at ae;have ap:=y5 (gJ - gI - 2).toNat (ws.map PW.page) (gI+2) G.nodup fun x H=>by obtain⟨J,ab,rfl⟩:=cu.1 H;have:=G.far J ab;omega
  rw[cS] at ap;have aF:(if ws=[] then [] else ws.map oW++[lJ.fl]).length<=ws.length+1:=by split<;>simp
  simp only[iI,j1,dd] at ae;omega
 by_cases B:er=0
 rw[if_neg (by simp[B])] at O;subst O;refine⟨ac,fun e=>⟨rfl,(L e).2⟩, .inl ⟨rfl,?_,rfl⟩,ad,ai,ak⟩;rcases y with y|y;exact y.2;rw[B] at y;exact absurd y.1 oF;rw[if_pos B] at O;subst O;refine⟨ac,fun e=>absurd (L e).1 B, .inr ?_,ad,ai,ak⟩;rcases y with y|y;exact absurd y.1 B;exact⟨y.1,y.2.1,rfl,y.2.2⟩
theorem zO (h:k5 d gI gJ V t) (I:V+1<=200) (l:List ju):
  (iD cC l≠0/\lN (iP d gI gJ V t) l=(iY,iD cC l))\/
  (iD cC l=0/\l.any (og t)=cQ/\lN (iP d gI gJ V t) l=(iY,15))\/
  (iD cC l=0/\l.any (og t)=cI/\l=[]/\lN (iP d gI gJ V t) l=(iP d gI gJ V t,0))\/
  (iD cC l=0/\l.any (og t)=cI/\l≠[]/\(iP d gI gJ V t).free.length<(uq (jz t) l).length/\lN (iP d gI gJ V t) l=(iY,17))\/
  (iD cC l=0/\l.any (og t)=cI/\l≠[]/\ ∃t' p,kO (iP d gI gJ V t) t l=cy (t',p)/\nW t'/\jz t'=uq (jz t) l/\qb d gI gJ V t t' (lN (iP d gI gJ V t) l)):=by
 have y:mz (iP d gI gJ V t)=cy t:=by rw[wx];exact h.valid
 by_cases i:iD cC l=0
 .
  right;cases A:l.any (og t) with
  | true=>exact .inl ⟨i,rfl,zz y i A⟩
  | false=>
   right
   by_cases j:l=[]
   subst j;exact .inl ⟨i,rfl,rfl,zA y⟩;right;have H: ∀c∈l,k6 (c.key,c.new):=fun c J=>(wy i c J).1;have L:(iP d gI gJ V t).gZ≠1099511627776:=by have:=h.iX;show(V:Int)≠_;omega
   rcases hp:kO (iP d gI gJ V t) t l with _|r;exact .inl ⟨i,rfl,j,FB h.tm H hp,uX y i A j (.inl hp)⟩;obtain⟨t',p⟩:=r;obtain⟨E,F,G⟩: ∃E F,gR d (n5 (iP d gI gJ V t) p.ws (iA t'))=(E,F):=⟨_,_,rfl⟩;have B:=LX h H hp;refine .inr ⟨i,rfl,j,t',p,rfl,B.tm,B.iv,LZ h I B G ?_⟩;exact xd y i A j hp L G
 exact .inl ⟨i,zy y i⟩
theorem ve (h:(kY d gI gJ).2=0):k5 (kY d gI gJ).1 gI gJ 1 cC/\Shape d (kY d gI gJ).1/\(d.left= -1->(kY d gI gJ).1.left= -1)/\
  ∀k:Nat,k<d.gG.length->((k:Int)<gI\/gJ<=k)->gQ (kY d gI gJ).1 k=gQ d k:=by
 by_cases F:iQ d gI gJ=0
 .
  unfold kY at h |-;rw[if_neg (by simp[F])] at h |-;have Y:=xj F;have A:=Y.1;obtain⟨ops,E⟩:=nM ([lJ.wr gI (bs (jg [])), .wr (gI+1) (bs (jd 512 1 0)), .fl]);rw[E] at h |-;have U:jg []=cv 512 0:=rfl;have B: ∀o∈ops,p9 d o:=by intro o j;rw[<-E] at j;rcases j4.1 j with rfl|j;exact⟨oM,oM,by rw[lM,U,di];omega⟩;rcases j4.1 j with rfl|j;exact⟨oM,oM,by rw[lM,tH oF];omega⟩;rw[lx.1 j];trivial
  have T:=(x4 (ops:=ops) A B).1;have I: ∀y data,lJ.wr y data∈ops->(y=gI/\data=bs (jg []))\/(y=gI+1/\data=bs (jd 512 1 0)):=by intro y data i;rw[<-E] at i;rcases j4.1 i with e|i;simp only[lJ.wr.injEq] at e;exact .inl e;rcases j4.1 i with e|i;simp only[lJ.wr.injEq] at e;exact .inr e;rw[lx] at i;cases i
  obtain⟨q,rfl⟩: ∃q:Nat,gI=q:=⟨gI.toNat,oM⟩;have ae:gQ (gR d ops).1 q=cv 512 0:=by refine zF A B oM h (fun y data i e=>?_) (.inr ⟨q,_,by rw[<-E];exact dS,rfl⟩);rcases I y data i with⟨_,H⟩|⟨X,_⟩;rw[H,q7,U];omega
  have af:gQ (gR d ops).1 ((q:Int)+1)=jd 512 1 0:=by
   have:((q:Int)+1)=((q+1:Nat):Int):=oM
   rw[this];refine zF A B oM h (fun y data i e=>?_) (.inr ⟨(q:Int)+1,bs (jd 512 1 0),by rw[<-E];exact dL _ dS,oM⟩);rcases I y data i with⟨X,_⟩|⟨_,H⟩;omega;rw[H,q7]
  have R:(gR d ops).1.gH=[]/\(d.left= -1->(gR d ops).1.left= -1):=by
   have L:ops=[(⟨q,bs (jg [])⟩:PW),⟨(q:Int)+1,bs (jd 512 1 0)⟩].map oW++[.fl]:=E.symm;have aa: ∀x∈[(⟨q,bs (jg [])⟩:PW),⟨(q:Int)+1,bs (jd 512 1 0)⟩],p9 d (oW x):=fun x ad=>B _ (by rw[L];exact cK _ (cu.2 ⟨x,ad,rfl⟩));obtain⟨ah,_,_,_,S⟩:=BJ _ A aa;have J:=(x4 (ops:=[(⟨q,bs (jg [])⟩:PW),⟨(q:Int)+1,bs (jd 512 1 0)⟩].map oW) A fun o j=>B o (by rw[L];exact cK _ j)).1;rw[L,xf] at h |-;generalize gR d ([(⟨q,bs (jg [])⟩:PW),⟨(q:Int)+1,bs (jd 512 1 0)⟩].map oW)=P at h S J |-;rcases S with⟨G,_,ac⟩|⟨G,_,_⟩;.
    rw[if_neg (by simp[G])] at h |-
    by_cases O:P.1.left=0
    rw[xe J.1 (by intro o j;rw[lx.1 j];trivial) O oC] at h;cases h;have M:=tG J.1 O;rw[uZ (by rw[M]),gR,M];refine⟨rfl,fun e=>?_⟩;have:=ac e;simp only;unfold jt;simp only;rw[if_neg oM];exact this
   rw[if_pos (by rw[G];decide),G] at h;cases h
  refine⟨⟨BQ F T,R.1,cP 1,oM,af,?_,(fun n e=>by cases e),fun m i=>by cases i⟩,T,R.2,fun k ab ag=>?_⟩;have:gQ (gR d ops).1 ((q:Int)+(((1+1) % 2:Nat):Int))=cv 512 0:=by rw[<-ae];simp
  rw[this];exact Lr oF (cP 1);refine zE A B ab fun y data i=>?_;rcases I y data i with⟨e,_⟩|⟨e,_⟩<;>omega
 unfold kY at h;rw[if_pos F] at h;exact absurd h F
open Go.RowKit Go.Shelf
variable {gM n:Nat}{e:TypeId}{v:cV}{xs:List cV}
attribute [local go_sem] Oper.semAt_some
theorem FD {h B:cL} {A:Option Nat} {m:Nat} (y:h.ownsRow gM e m v n xs) (F:h.grownBy B A) (H: ∀r,A=cy r-> ∃o:Obj,h.heap[r]?=cy o/\o.isCells=cI):B.ownsRow gM e m v n xs:=by
 refine y.kept F ?_
 by_cases i:v.ownBlock=cC
 exact .inl i;refine .inr fun e=>?_;rcases y.2 with⟨rfl,_⟩|⟨g,I,J,rfl,_,G,_⟩;exact i rfl;obtain⟨o,j,E⟩:=H g (by rw[<-e];rfl);rw[G] at j;cases j;cases E
theorem BW:ByteArray.empty.toList=[]:=by rw[ByteArray.toList_eq];rfl
theorem L0 {w w':cL} {B:Nat} (A:w.ownsRow gM e B v n xs) (i:w.grownBy w' v.ownBlock):KeepsOthers w w':=by
 refine⟨i.size,fun k o h j=>(i.block k (c4.1 h).1 fun e=>?_).trans h⟩;rcases A.2 with⟨rfl,_⟩|⟨g,E,F,rfl,_,y,_⟩;simp[Value.ownBlock] at e;simp[Value.ownBlock] at e;subst e;rw[y] at h;cases h;cases j
def xk (low high:ByteArray) (x:Kv):Bool:= !iB x.1 low&&(decide (high=cx)||iB x.1 high)
theorem L1 (l:List Kv) (x:Kv) (i h:ByteArray):lg (l++[x]) i h=lg l i h++(if xk i h x then [x] else []):=by
 unfold lg xk;rw[List.filter_append,List.filter_cons,List.filter_nil]
theorem L3 (l:List Kv) (i h:ByteArray):(lg l i h).length<=l.length:=List.length_filter_le _ _
def BX (w:cL) (gM:Nat) (v:cV) (l:List Kv):Prop:=w.ownsRow gM 77 2 v l.length (gV l)
def vg (x:Ix) (low high:ByteArray):List Kv×Int:=
 match mz x with
 | none=>([],1)
 | some t=>(lg (jz t) low high,0)
def zP (r:List Kv×Int) (w:cL) (e:Ending) (w':cL):Prop:=dm w.heap.size w w'/\ ∃v,e= .returned (.tuple #[v, gE ha r.2])/\BX w' w.heap.size v r.1
theorem L4 (x:Ix) (v:cV) (A i:ByteArray) (w:cL) (U:rK w v x) (aQ: ∀t,mz x=cy t->(jz t).length<=1000000):
  Calls cY 22 #[v, hA A, hA i] w (zP (vg x A i) w):=by
 have bm:=U;obtain⟨aV,aU,S,aE,fo,fc,rfl,-,-,-⟩:=U;obtain⟨b3,bf,bn,bo,bp⟩:=info_parts sy;have ao:=gF (gK bf (gK bn (gK bo bp)));clear bf bn bo bp;obtain⟨cf,aH⟩:=nM (zP (vg x A i) w);rw[aH];have a1:=gF aH;obtain⟨N,aG⟩:=nM w.heap.size;obtain⟨bF,bV⟩:=nM (ib x.gL aV S aU aE x.gI x.gJ x.gZ x.gN fo x.free.length fc);obtain⟨W0,ab⟩:=nM (((w.alloc (hE (ib x.gL aV S aU aE x.gI x.gJ x.gZ x.gN fo x.free.length fc) 33)).alloc (hE #[hA A] 9)).alloc (hE #[hA i] 9));have a6:dm w.heap.size w W0:=by subst ab;exact((Below.one w _).alloc oC _).alloc oN _
 have bt:Bx W0 N (ib x.gL aV S aU aE x.gI x.gJ x.gZ x.gN fo x.free.length fc) 33:=by subst ab aG;exact((Bx.new w _ _).alloc _).alloc _
 have bv:Bx W0 (N+1) #[hA A] 9:=by subst ab aG;exact(Bx.ir _ _ _ _ oC).alloc _
 have bu:Bx W0 (N+1+1) #[hA i] 9:=by subst ab aG;exact Bx.ir _ _ _ _ oC
 have bl:=Be x _ _ (bm.below a6);have a3:=gF bl;obtain⟨a5,b5⟩:=bt.c2;unfold ib at a5 ab;clear bl bm aH bt bV bF;obtain⟨n,cm⟩: ∃n,9<=n:=⟨9,cP _⟩;refine(callsIn_wide (n:=n)).1 ?_;have bj:Fence.wide.round=none:=rfl;have bR:1<=n:=oM
 refine callsIn_of_wp_marks func22 rfl trivial ?_ bj;simp only[ntmps22,cW,j1,dd,Nat.reduceAdd,Nat.reduceSub,Array.replicate_succ,Array.replicate_zero,List.push_toArray,List.append_toArray,c0,c9];gi_wp2_with fail;refine⟨trivial,?_⟩;refine(callsIn_wide.2 a3.o).mono ?_;rintro e Y ⟨au,ax⟩;have a7:=iq a6 au;have bw:=bv.gD au;have aX:=bu.gD au;have bX:=aX.lt;clear a5 b5 bv bu ab a3 au;cases T:mz x with
 | none=>rw[T] at ax;obtain⟨u,rfl⟩:=ax;have al:Hid (vg x A i=([],1)):=gF (by unfold vg;rw[T]);clear T;gi_wp2;refine⟨.tuple #[ht cC 0 0, gE ha 1],by simp[results,f22,go_sem],?_⟩;rw[<-a1.o];unfold zP;rw[al.o];exact⟨a7,_,rfl,World.ownsRow_nil _ _ _ _⟩
 | some t=>
  rw[T] at ax;obtain⟨a,rfl,bb,bh⟩:=ax;have al:Hid (vg x A i=(lg (jz t) A i,0)):=gF (by unfold vg;rw[T]);obtain⟨D,ag⟩:=nM (jz t);have a9:D.length<=1000000:=by rw[<-ag];exact aQ t T
  have ay:Hid (jz (pq a)=D):=gF (by rw[bh,ag]);rw[ag] at al;obtain⟨p,aP⟩: ∃p,jP a= .pointer p:=by cases a with
   | none=>exact⟨cC,rfl⟩
   | some t=>exact⟨_,rfl⟩
  rw[aP];obtain⟨y,aq⟩:=nM Y.heap.size;obtain⟨W5,ar⟩:=nM (Y.alloc (hE #[ht cC 0 0] 41));have a8:dm Y.heap.size Y W5:=by rw[<-ar];exact Below.one Y _
  have bz:Bx W5 y #[ht cC 0 0] 41:=by rw[<-ar, <-aq];exact Bx.new Y _ _
  have b1:W5.heap.size=y+1:=by rw[<-ar, <-aq];simp
  have az:=gF bb;clear T aQ bh ag bb;gi_wp2_with fail;refine⟨trivial,?_⟩;refine(Ec _ p _).mono ?_;rintro e R ⟨rfl,aY,bA,aJ,aT⟩;rw[b1] at aY bA aT;have af:=iq a8 aJ;have cd:=bz.gD aJ;have cc:=bw.gD af;have cb:=aX.gD af;have bD:Hid (nK W0.heap.size R a):=gF (fun t b0=>by obtain⟨G,H,J⟩:=az.o t b0;exact⟨G.ij af,H,J⟩);have am:Hid (∀x∈pM a,x<y):=gF (fun x U=>by
   cases a with
   | none=>cases U
   | some t=>rw[<-aq];exact((az.o t rfl).1.lt x U).2)
  have aF:=iq a7 af;rw[<-aP] at aY;have aA:Hid (N+1+1<y):=gF (by rw[<-aq];exact bX);have ap:=gF aT;have cj:(jz (pq a)).length<=1000000:=by rw[ay.o];exact a9
  clear aJ ar af bz bw aX az aP a8 aT;gi_wp2;refine En bj bR (gf:=103) (lb:=#[.pointer (cy ⟨y+1,0,cC⟩), .pointer (cy ⟨y+1+1,0,cC⟩)]) rfl trivial (enters_of func103 oP rfl)
   (Eb (n - 1) oM W0.heap.size (y+1) (y+1+1) (fun b=>b∈pM a\/b=y+1\/b=y+1+1) a R bD.o (fun x U=> .inl U) (.inr (.inl rfl)) (.inr (.inr rfl)) aY bA (by rw[ay.o];exact a9))
   (fun b ah=>by rcases ah with ah|rfl|rfl;have:=am.o b ah;have:=ap.o;omega;have:=ap.o;omega;have:=ap.o;omega) (fun _=>rfl)
   (fun E W=>gS [y] R W/\E.length<=1000000/\ ∃o c,Bx W y #[ht o (lg E A i).length c] 41/\W.ownsRow R.heap.size 77 2 (ht o (lg E A i).length c) (lg E A i).length (gV (lg E A i)))
   (fun _ _ _=>False)
   (fun s bB bC ca ai av aw=>by obtain⟨G,b7,o,c,H,J⟩:=ai;exact⟨G.grown av fun r e=>(aw r e).1,b7,o,c,r7 H av fun r e=>(aw r e).2,FD J av fun r e=>(aw r e).2⟩)
   (fun c s bB bC ca ai av aw=>ai)
   ⟨gS.refl _ _,dM _,cC,0,cd,World.ownsRow_nil _ _ _ _⟩ (fun s W ai=>ai.1.2.2.2.1) 11 (fun x=>#[hA x.1, hA x.2]) 77
   ?assign ?body ?done ?stop
  case assign=>intro l E x W K ck hK;simp only[List.zip_toArray,dQ,dP,cW] at hK |-;gi_wp2;exact hK
  case body=>
   rintro l E ⟨h,j⟩ ce W ci ⟨aa,aQ,o,c,B,I⟩ aI cl;simp only[List.zip_toArray,dQ,dP,cW];have aS:=L1 E (h,j) A i;have bk:=L3 E A i;have aD:=aa.bx cc (by simp;have:=aA.o;omega);have aC:=aa.bx cb (by simp;have:=aA.o;omega);have aR:(E++[(h,j)]).length<=1000000:=by rw[iI];simp;omega
   obtain⟨M,ba⟩:=nM (lg E A i);rw[ba] at B I aS bk;obtain⟨m,aM⟩:=nM M.length;rw[aM] at B I bk;have ac:=gF aa;have bK:=aD.cell 0;have bJ:=aC.cell 0;have bG:=aI.cell 0;have bH:=aI.cell 1;have S:=B.cell 0;simp only[dj,c8,List.getElem?_cons_succ] at bK bJ bG bH S;have fo:=B.free 0;have co:=aD.lt;have cn:=aC.lt;have bq:=aI.lt;have b6:=B.lt;have ad:=gF aM;have O:=gF aS;clear aa ba aM aS aD aC;cases G:iB h A with
   | true=>have b8:dc h.toList A.toList=true:=G;have L:Hid (lg (E++[(h,j)]) A i=M):=gF (by rw[O.o];simp[xk,G]);clear G O;gi_wp2;exact⟨KeepsFrom.refl _ _,iL.refl _ _,ac.o,aR,o,c,by rw[L.o,ad.o];exact B,by rw[L.o,ad.o];exact I⟩
   | false=>
    have b8:dc h.toList A.toList=false:=G
    by_cases H:i=cx
    focus
     have b9:i.toList.isEmpty=true:=by rw[H,BW];rfl
     have bs:i.toList=[]:=by rw[H,BW]
     have L:Hid (lg (E++[(h,j)]) A i=M++[(h,j)]):=gF (by rw[O.o];simp[xk,H,G]);have bg: ¬(y∈pM a\/y=y+1\/y=y+1+1):=by rintro (F|F|F);have:=am.o _ F;omega;omega;omega
     have b2:=ac.o.2.2.2.1;have aN:=I.alloc (hE #[hA h, hA j] 77);have a0:Hid (∀u∈[cO h,cO j],u.oneCell'=cQ):=gF (by intro u aj;simp at aj;rcases aj with rfl|rfl<;>rfl)
     have ak:=Bx.new W #[hA h, hA j] 77;have a2:Hid (∀X u,[cO h,cO j][X]?=cy u->(W.alloc (hE #[hA h, hA j] 77)).cell? ((⟨W.heap.size,0,cC⟩:Addr).add X)=cy u):=gF (fun X u aL=>by rw[Addr.add_lit,dI,ak.cell];simpa using aL)
     have aB:=B.alloc (hE #[hA h, hA j] 77);have bE:=gF B;have bc:R.heap.size<=(W.alloc (hE #[hA h, hA j] 77)).heap.size:=oN
     clear G H O ak B
    rotate_left;focus
     have bs: ¬i.toList=[]:=fun e=>H (oB (e.trans BW.symm));have b9:i.toList.isEmpty=false:=by rw[List.isEmpty_eq_false_iff];exact bs
     cases J:iB h i
     case' true=>
      have b':dc h.toList i.toList=true:=J;have L:Hid (lg (E++[(h,j)]) A i=M++[(h,j)]):=gF (by rw[O.o];simp[xk,G,H,J]);have bg: ¬(y∈pM a\/y=y+1\/y=y+1+1):=by rintro (F|F|F);have:=am.o _ F;omega;omega;omega
      have b2:=ac.o.2.2.2.1;have aN:=I.alloc (hE #[hA h, hA j] 77);have a0:Hid (∀u∈[cO h,cO j],u.oneCell'=cQ):=gF (by intro u aj;simp at aj;rcases aj with rfl|rfl<;>rfl)
      have ak:=Bx.new W #[hA h, hA j] 77;have a2:Hid (∀X u,[cO h,cO j][X]?=cy u->(W.alloc (hE #[hA h, hA j] 77)).cell? ((⟨W.heap.size,0,cC⟩:Addr).add X)=cy u):=gF (fun X u aL=>by rw[Addr.add_lit,dI,ak.cell];simpa using aL)
      have aB:=B.alloc (hE #[hA h, hA j] 77);have bE:=gF B;have bc:R.heap.size<=(W.alloc (hE #[hA h, hA j] 77)).heap.size:=oN
      clear G J O ak B
     rotate_left
     case' false=>have b':dc h.toList i.toList=false:=J;have L:Hid (lg (E++[(h,j)]) A i=M):=gF (by rw[O.o];simp[xk,G,H,J]);clear G H J O;gi_wp2;exact⟨KeepsFrom.refl _ _,iL.refl _ _,ac.o,aR,o,c,by rw[L.o,ad.o];exact B,by rw[L.o,ad.o];exact I⟩
    all_goals
     gi_wp2_with (refine wpListIn_append_own _ rfl _ _ 41 rfl R.heap.size 77 b3 _ 2 32 underlying41 ao.o.1 ao.o.2.1 ao.o.2.2.1 ao.o.2.2.2 rfl oF (.slice o m c) m (gV M) rfl aN ⟨W.heap.size,0,cC⟩ 1 1 [.string h, .string j] rfl rfl a2.o a0.o (by unfold maxLen;omega) oM bc ?_;intro cr aW aO bd _;obtain⟨br,a4,rfl⟩:=pD aO;have ae:=aB.grown bd fun e=>nu aN aB oF e.symm;have bL:=ae.cell 0;have cg:=ae.free 0;have cp:=ae.lt;simp only[dj,c8] at bL);have aK:W.grownBy aW (Value.slice o m c).ownBlock:=(World.grownBy_alloc W (.cells #[.string h, .string j] 77) _).trans bd;have be: ∀r,(Value.slice o m c).ownBlock=cy r->R.heap.size<=r:=fun r e=>(I.lt r e).1;have a':(M++[(h,j)]).length=m+1:=by rw[iI,ad.o];rfl
     have bU:gV (M++[(h,j)])=gV M++[hA h, hA j]:=by rw[sw];rfl
     refine⟨?_,?_,?_,aR,br,a4,?_,?_⟩;refine KeepsFrom.trans ?_ ((KeepsOthers.setCell aW ⟨y,0,cC⟩ _).from _);exact(L0 I aK).from _;refine iL.trans ?_ (iL.set aW (a:=⟨y,0,cC⟩) _ bg);intro k cq bW bi;have bY:=(c4.1 bi).1;refine(aK.block k bY fun e=>?_).trans bi;have ch:=be k e.symm;have:=ap.o;rcases bW with F|F|F;have:=am.o k F;omega;omega;omega;exact(ac.o.grown aK be).set (b:=y) (k:=0) oC;rw[L.o,a'];have:=ae.set 0 (ht br (m+1) a4);simpa using this;rw[L.o,a',bU];exact oX aO (a:=⟨y,0,cC⟩) (nu aO ae oF) _
  case done=>rintro aZ ct W bT rfl ⟨aa,-,o,c,B,I⟩ hK;rw[ay.o] at B I;have S:=B.cell 0;have b6:=B.lt;simp only[dj,c8] at S;gi_wp2;refine⟨oC, .inl ⟨_,_,rfl,run_takeDeferred hK,?_⟩⟩;refine⟨.tuple #[ht o (lg D A i).length c, gE ha 0],by simp[results,f22,go_sem],?_⟩;rw[<-a1.o];unfold zP;rw[al.o];have bS:=aa.own (l:=aZ) (o:= .deferred cC) bT rfl;have bZ:=FD I (grownBy_putObj' _ aZ (.deferred cC)) (fun r e=>by cases e;exact⟨_,hK,rfl⟩);refine⟨bS.below aF aF.size (fun b ah=>by simp at ah;have:=aA.o;omega),_,rfl,?_⟩;rcases bZ with⟨bq,b4⟩;refine⟨bq,?_⟩;rcases b4 with F|⟨bQ,bI,bM,bN,bO,bP⟩;exact .inl F;exact .inr ⟨bQ,bI,bM,bN,jU aF.size bO,bP⟩
  case stop=>rintro D c E W ag _ F;exact F.elim
variable {l:List Kv}{key:ByteArray}{o:Option Addr}{w:cL}
def si {α:Type} (key:α->ByteArray) (l:List α):Prop:=l.Pairwise fun a b=>iB (key a) (key b)=cQ
theorem FE {α:Type} {key:α->ByteArray}: ∀{l m:List α},si key l->si key m->(∀x,x∈l↔x∈m)->l=m
 | [],[],_,_,_=>rfl
 | [],y::m,_,_,h=>by have:=(h y).2 oC;cases this
 | x::l,[],_,_,h=>by have:=(h x).1 oC;cases this
 | x::l,y::m,h1,h2,h=>by
  obtain⟨A,E⟩:=dp.1 h1;obtain⟨B,F⟩:=dp.1 h2;have H:x=y:=by rcases j4.1 ((h x).1 oC) with e|G;exact e;rcases j4.1 ((h y).2 oC) with e|I;exact e.symm;have:=wN (B x G);rw[A y I] at this;cases this
  subst H;have:l=m:=by refine FE E F fun z=>⟨fun i=>?_,fun i=>?_⟩;rcases j4.1 ((h z).1 (by simp[i])) with rfl|j;have:=A z i;rw[tB] at this;cases this;exact j;rcases j4.1 ((h z).2 (by simp[i])) with rfl|j;have:=B z i;rw[tB] at this;cases this;exact j
  rw[this]
def ky (l:List Kv) (key:ByteArray):ByteArray×Bool:=
 match l.find? fun p=>decide (p.1=key) with
 | none=>(cx,cI)
 | some p=>(p.2,cQ)
theorem L5 (h: ∀p∈l,p.1≠key):ky l key=(cx,cI):=by
 unfold ky;have:l.find? (fun p=>decide (p.1=key))=none:=dr.2 fun p i=>by simpa using h p i
 rw[this]
theorem L6 {h B C:List Kv} (A: ∀p∈h,iB p.1 key=cQ) (E: ∀p∈C,iB key p.1=cQ):ky (h++(B++C)) key=ky B key:=by
 have j:h.find? (fun p=>decide (p.1=key))=none:=dr.2 fun p i=>by simpa using q9 (A p i)
 have y:C.find? (fun p=>decide (p.1=key))=none:=dr.2 fun p i=>by simpa using fun e:p.1=key=>q9 (E p i) e.symm
 unfold ky;rw[dU,j,dU,y];simp
theorem L8 {ps:List Kv} (h:jZ ps) (key:ByteArray):pF ps key=ky ps key:=by
 induction ps with
 | nil=>rfl
 | cons p l J=>
  obtain⟨F,G⟩:=dp.1 h;have L:=J G
  by_cases B:iB p.1 key=cQ
  have i:jM (p::l) key=jM l key+1:=by unfold jM;rw[dO,if_pos B];rfl
  have j:jR (p::l) key=jR l key:=by unfold jR;rw[i];rfl
  have y:ky (p::l) key=ky l key:=by unfold ky;rw[List.find?_cons_of_neg (by simpa using q9 B)]
  rw[y, <-L];unfold pF;rw[i,j];rfl;have I:iB p.1 key=false:=by simpa using B
  have i:jM (p::l) key=0:=by unfold jM;rw[dO,if_neg B];rfl
  by_cases A:p.1=key
  have y:ky (p::l) key=(p.2,cQ):=by unfold ky;rw[List.find?_cons_of_pos (by simpa using A)]
  have j:jR (p::l) key=true:=by unfold jR;rw[i];simpa using A
  rw[y];unfold pF;rw[i,j];rfl;have j:jR (p::l) key=false:=by unfold jR;rw[i];simpa using A
  have H:iB key p.1=true:=by cases g:iB key p.1;exact absurd (tC I g) A;rfl
  have y:ky (p::l) key=(cx,cI):=L5 fun q E e=>by rcases j4.1 E with rfl|E;exact A e;have:=r6 H (F q E);rw[e,tB] at this;cases this
  rw[y];unfold pF;rw[j];rfl
theorem L9 (key:ByteArray): ∀{n:Nd} {a b h:Nat},Tm a b h n->jZ n.iv->pF (n.kE key) key=ky n.iv key:=by
 intro n
 induction n using Nd.ind with
 | h A gC y O=>
  intro a b h t j
  by_cases i:gC=[]
  rw[Nd.l8 (n:= .mk A gC y) i,Nd.iJ (n:= .mk A gC y) i];rw[Nd.iJ (n:= .mk A gC y) i] at j;exact L8 j key;obtain⟨h,rfl⟩: ∃m,h=m+1:=by
   cases h with
   | zero=>exact absurd (t.leaf.1 rfl) i
   | succ m=>exact⟨m,rfl⟩
  obtain⟨-,-,R,S,F⟩:=t.lK;simp only[Nd.gC] at F;have H:(Nd.mk A gC y).iv=(gC.map Nd.iv).flatten:=Nd.iu i;rw[Nd.mE (n:= .mk A gC y) i,H];rw[H] at j;simp only[Nd.gC];have B:=p7 key i;obtain⟨I,G⟩:=nM (ly gC key);simp only[G] at B |-;obtain⟨J,L⟩:=Bz F j G B;have E:gC[I]∈gC:=List.getElem_mem B;have M:jZ gC[I].iv:=j.sub (cN (cu.2 ⟨_,E,rfl⟩));rw[O _ E (F _ E) M,zl B,L6 J L]
theorem Ma {t:Option Nd} (h:nW t) (key:ByteArray):o5 t key=ky (jz t) key:=by
 cases t with
 | none=>rfl
 | some n=>obtain⟨⟨k,i⟩,j⟩:=h n rfl;exact L9 key i j
theorem Mb (l:List Kv) (key:ByteArray):oZ l key=((ky l key).1,if (ky l key).2 then 0 else 7):=by
 unfold oZ ky;cases l.find? fun p=>decide (p.1=key) with
 | none=>rfl
 | some p=>rfl
structure kP where
 kind:Int
 nS:List ju
 k7:List Kv
 lA:List ByteArray
 left:Int
 gP:List Int
def ln (l:List Kv) (out:List ju) (c:ju):List ju:=
 if out.any (fun x=>decide (x.key=c.key)) then out
 else if (ky l c.key).2||c.kp then out++[{ c with old:=(ky l c.key).1,lz:=(ky l c.key).2 }] else out
def rz (p:Kv):ju:=⟨p.1,cI,cx,cQ,p.2⟩
def rA (k:ByteArray):ju:=⟨k,cI,cx,cI,cx⟩
def pU (a:kP) (l:List Kv):List ju:=a.lA.foldl (fun o k=>ln l o (rA k)) (a.k7.foldl (fun o p=>ln l o (rz p)) [])
def nO (l:List ju):List ju:=l.mergeSort fun x y=> !iB y.key x.key
def nx (a:kP) (l:List Kv):List ju:=if a.kind≠1 then a.nS else nO (pU a l)
def qR (l:List Kv) (c:ju):Prop:=c.old=(ky l c.key).1/\c.lz=(ky l c.key).2/\(c.lz||c.kp)=cQ/\(c.kp=cI->c.new=cx)
theorem Mc {out:List ju} {c:ju} (j:(out.map ju.key).Nodup) (i: ∀x∈out,qR l x) (F:c.kp=cI->c.new=cx):((ln l out c).map ju.key).Nodup/\(∀x∈ln l out c,qR l x)/\(ln l out c).length<=out.length+1:=by
 unfold ln;split;exact⟨j,i,oM⟩;rename_i A;split;rename_i B;refine⟨?_,?_,oC⟩;rw[dA,c7];refine⟨j,oC,fun a E b y e=>?_⟩;subst e;simp only[cw,List.map_nil,lx] at y;obtain⟨x,h,e⟩:=cu.1 E;refine A (List.any_eq_true.2 ⟨x,h,?_⟩);simp only[decide_eq_true_eq];rw[e,y];intro x h;rcases jD.1 h with h|h;exact i x h;rw[lx] at h;subst h;exact⟨rfl,rfl,B,F⟩;exact⟨j,i,oM⟩
theorem BZ {β:Type} {l:List Kv} {f:β->ju} (h: ∀b,(f b).kp=cI->(f b).new=cx): ∀(bs:List β) {out:List ju},(out.map ju.key).Nodup->(∀x∈out,qR l x)->
  ((bs.foldl (fun o b=>ln l o (f b)) out).map ju.key).Nodup/\(∀x∈bs.foldl (fun o b=>ln l o (f b)) out,qR l x)/\(bs.foldl (fun o b=>ln l o (f b)) out).length<=out.length+bs.length
 | [],out,hn,hg=>⟨hn,hg,oC⟩
 | b::bs,out,hn,hg=>by obtain⟨y,A,E⟩:=Mc hn hg (h b);obtain⟨i,j,B⟩:=BZ h bs y A;rw[de];exact⟨i,j,by rw[j1];omega⟩
theorem FH (a:kP) (l:List Kv):((pU a l).map ju.key).Nodup/\(∀x∈pU a l,qR l x)/\(pU a l).length<=a.k7.length+a.lA.length:=by
 obtain⟨y,A,B⟩:=BZ (l:=l) (f:=rz) (fun b j=>by cases j) a.k7 (out:=[]) c5 (fun x E=>by cases E);obtain⟨h,i,F⟩:=BZ (l:=l) (f:=rA) (fun b _=>rfl) a.lA y A;rw[dd] at B;exact⟨h,i,by unfold pU;omega⟩
theorem B2 (l:List ju):(nO l).Perm l:=List.mergeSort_perm _ _
theorem Md {l:List ju} (h:(l.map ju.key).Nodup):si ju.key (nO l):=by
 have E:(nO l).Pairwise fun x j=>(!iB j.key x.key)=true:=by refine List.pairwise_mergeSort (fun a b c i y=>?_) (fun a b=>?_) l;simp only[dK,Bool.not_true] at *;cases g:iB c.key a.key;rfl;have:=AK y g;rw[this] at i;cases i;cases g:iB b.key a.key;rfl;rw[wN g];rfl
 have A:((nO l).map ju.key).Nodup:=((B2 l).map ju.key).nodup_iff.2 h;have B:(nO l).Pairwise fun x j=>x.key≠j.key:=by unfold List.Nodup at A;rwa[List.pairwise_map] at A
 refine(E.and B).imp fun {x j} ⟨i,y⟩=>?_;simp only[dK,Bool.not_true] at i;cases g:iB x.key j.key;exact absurd (tC g i) y;rfl
theorem Me {l m:List ju} (h:(l.map ju.key).Nodup) (j:m.Perm l) (i:si ju.key m):m=nO l:=
 FE i (Md h) fun _x=>j.mem_iff.trans (B2 l).mem_iff.symm
theorem Mf (l:List ju):(nO l).length=l.length:=(B2 l).length_eq
theorem zQ (a:kP) (l:List Kv):(nx a l).length<=max a.nS.length (a.k7.length+a.lA.length):=by
 unfold nx;split;omega;rw[Mf];have:=(FH a l).2.2;omega
theorem sX {n c:Nat} (h:jk o n c):n<=9223372036854775807:=by
 rcases h with⟨_,rfl,_⟩|⟨_,_,j,i⟩;omega;unfold maxLen at i;omega
def jS (w:cL) (o:Option Addr) (l:List Kv):Prop:=gO (· <w.heap.size) w o (gV l)
theorem jS.below {w':cL} (h:jS w o l) (i:dm w.heap.size w w'):jS w' o l:=(gO.below h i).mono fun _ h=>iU h i.size
theorem jS.nil (w:cL) (o:Option Addr):jS w o []:=gO.nil _ _ _
theorem jS.cell (h:jS w o l) {i:Nat} (L:i<l.length): ∃g j,o=cy ⟨g,j,cC⟩/\g<w.heap.size/\w.cell? ⟨g,j+i * 2,cC⟩=cy (hA l[i].1)/\w.cell? ⟨g,j+i * 2+1,cC⟩=cy (hA l[i].2):=by
 have M:=uJ l;obtain⟨B,E⟩:=yZ L;have y:i * 2<(gV l).length:=oM
 have A:i * 2+1<(gV l).length:=oM
 obtain⟨g,j,rfl,H,J⟩:=h (i * 2) y;obtain⟨G,j8,F,I,-⟩:=h (i * 2+1) A;obtain⟨rfl,rfl⟩:g=G/\j=j8:=by simpa using F
 refine⟨g,j,rfl,J,?_,?_⟩;rw[H, <-cE y,B];rw[Nat.add_assoc,I, <-cE A,E]
theorem BX.at {gM:Nat} {v:cV} (h:w.ownsRow gM 77 2 v l.length (gV l)): ∃o c,v= ht o l.length c/\jk o l.length c/\jS w o l:=by
 obtain⟨o,c,e,y,j,-⟩:=nC h;exact⟨o,c,e,y,j.mono fun _ i=>i.2⟩
theorem FI {α:Type} {l m:List α} {k:Nat} (h:k<l.length) (i:k<m.length) (e:l.take k=m.take k) (x:l[k]=m[k]):l.take (k+1)=m.take (k+1):=by
 rw[du h,du i,e,x]
theorem FJ (l m:List Int) (a b:Option Addr) (c d:Nat) (w:cL) {S T:Nat->Prop} (M:lp S w a l) (O:lp T w b m) (ac:l.length<=9223372036854775807) (ad:m.length<=9223372036854775807):
  Calls cY 58 #[ht a l.length c, ht b m.length d] w fun e w'=>e= .returned (.bool (decide (l=m)))/\dm w.heap.size w w':=by
 obtain⟨r,y⟩:=nM (decide (l=m));rw[y];cases g:((l.length:Int)!=(m.length:Int));.
  have E:l.length=m.length:=by have:=g;simp at this;omega
  go_enter func58,ntmps58;go_wp2
  go_loopw [5] (fun F wr=> ∃(k:Nat),k<=l.length/\F= gE ha k/\l.take k=m.take k/\dm w.heap.size w wr) (fun F _=>l.length - (intOf F).toNat)
  case atStart=>exact⟨0,dM _,rfl,oC,db _ _⟩
  case round=>
   obtain⟨k,ab,rfl,h,i⟩:=hrel
   by_cases G:k<l.length
   .
    have H:k<m.length:=oM
    obtain⟨J,U,rfl,A,_⟩:=M k G;obtain⟨L,X,rfl,B,_⟩:=O k H;have Y:wr.cell? ⟨J,U+k,cC⟩=cy (gE ha l[k]):=by rw[i.cell (World.block_lt_of_cell? w _ A)];exact A
    have aa:wr.cell? ⟨L,X+k,cC⟩=cy (gE ha m[k]):=by rw[i.cell (World.block_lt_of_cell? w _ B)];exact B
    clear A B;cases I:(l[k]==m[k]);.
     have j:Hid (r=cI):=by unfold Hid;rw[<-y,decide_eq_false];intro e;subst e;simp at I
     clear E h;go_wp2;go_quiet (fail);go_wp2;go_ret;exact⟨by rw[j.o];rfl,Below.drewN i _⟩
    have R:=gF (FI G H h (by simpa using I));clear E h;go_wp2;go_quiet (fail);go_wp2;go_roundw;case rel=>exact⟨k+1,oM,oQ,R.o,Below.drewN i _⟩
    case measure=>simp[intOf];omega
   have j:Hid (r=cQ):=by unfold Hid;rw[<-y,decide_eq_true];rw[cG oM,cG oM] at h;exact h
   clear E h;go_wp2;go_ret;exact⟨by rw[j.o];rfl,i⟩
 have j:Hid (r=cI):=by unfold Hid;rw[<-y,decide_eq_false];intro e;subst e;simp at g
 go_enter func58,ntmps58;go_wp2;go_ret;exact⟨by rw[j.o];rfl,db _ _⟩
theorem yc (a b c d:ByteArray) (w:cL):(binOp .neq 77 (.agg #[hA a, hA b]) (.agg #[hA c, hA d])).run cY w= .ok (.bool (!(a.toList==c.toList&&b.toList==d.toList))) w:=by
 have B:=underlying9;have A:=isAgg9;have E:=sizeOf9;have j:Tryz.prog.underlying 77=cy (.struct (Tryz.prog.fieldsOf 77)):=oP
 have y:Tryz.prog.stoodInHeld 77=false:=oP
 rw[run_neq_struct,show(10000:Nat)=9999+1 from rfl,run_equalIn_agg w 9999 77 _ _ j y];simp only[Program.fieldsOf,underlying77];go_simp
 by_cases h:a.toList=c.toList<;>by_cases i:b.toList=d.toList<;>simp[h,i]
theorem Mg (h:BinOp) (x y:dT) (xs ys:Array cV) (w:cL):(eqGuard h 77 x y (.agg xs) (.agg ys)).run cY w= .ok () w:=run_eqGuard_agg w h _ x y xs ys oP
theorem Mh (l m:List Kv) (a b:Option Addr) (c d:Nat) (w:cL) (S:jS w a l) (T:jS w b m) (ag:l.length<=9223372036854775807) (ah:m.length<=9223372036854775807):
  Calls cY 24 #[ht a l.length c, ht b m.length d] w fun e w'=>e= .returned (.bool (decide (l=m)))/\dm w.heap.size w w':=by
 obtain⟨r,A⟩:=nM (decide (l=m));rw[A];cases g:((l.length:Int)!=(m.length:Int));.
  have B:l.length=m.length:=by have:=g;simp at this;omega
  go_enter func24,ntmps24;go_wp2
  go_loopw [5] (fun E wr=> ∃(k:Nat),k<=l.length/\E= gE ha k/\l.take k=m.take k/\dm w.heap.size w wr) (fun E _=>l.length - (intOf E).toNat)
  case atStart=>exact⟨0,dM _,rfl,oC,db _ _⟩
  case round=>
   obtain⟨k,af,rfl,j,i⟩:=hrel
   by_cases M:k<l.length
   .
    have O:k<m.length:=oM
    obtain⟨X,ai,rfl,J,F,G⟩:=S.cell M;obtain⟨Y,aj,rfl,L,H,I⟩:=T.cell O;have aa:=(i.cell J).trans F;have ab:=(i.cell J).trans G;have ac:=(i.cell L).trans H;have ad:=(i.cell L).trans I;clear F G H I;have R:=yc l[k].1 l[k].2 m[k].1 m[k].2;have ae:=Mg;cases h:(l[k].1.toList==m[k].1.toList&&l[k].2.toList==m[k].2.toList);.
     have y:Hid (r=cI):=by unfold Hid;rw[<-A,decide_eq_false];intro e;subst e;simp at h
     rw[h] at R;clear B j h;go_wp2;go_quiet (fail);go_wp2;go_ret;exact⟨by rw[y.o];rfl,Below.drewN i _⟩
    have U:=gF (FI M O j (by
     simp only[dx,beq_iff_eq] at h;exact Prod.ext (oB h.1) (oB h.2)))
    rw[h] at R;clear B j h;go_wp2;go_quiet (fail);go_wp2;go_roundw;case rel=>exact⟨k+1,oM,oQ,U.o,Below.drewN i _⟩
    case measure=>simp[intOf];omega
   have y:Hid (r=cQ):=by unfold Hid;rw[<-A,decide_eq_true];rw[cG oM,cG oM] at j;exact j
   clear B j;go_wp2;go_ret;exact⟨by rw[y.o];rfl,i⟩
 have y:Hid (r=cI):=by unfold Hid;rw[<-A,decide_eq_false];intro e;subst e;simp at g
 go_enter func24,ntmps24;go_wp2;go_ret;exact⟨by rw[y.o];rfl,db _ _⟩
end Go.Proofs.YtlefmmhlpgmbjaaGreat
