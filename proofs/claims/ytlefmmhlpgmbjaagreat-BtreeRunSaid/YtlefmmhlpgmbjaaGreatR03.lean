import Derived.Test.YtlefmmhlpgmbjaaGreatR02
open Go.Calls renaming quiet_of_same->cq
open Go.Proofs.Tryz renaming prog->cr,underlying139->cH,underlying9->cS,underlying5->cX,ntmps54->cZ,results90->da,func54->db,ntmps90->di,underlying4->dn,func90->dt,results132->du,ntmps133->dB,func133->dD,underlying119->dK
open Option renaming some->ct,none->cv,map_eq_some_iff->cN,ne_none_iff_exists'->dv
open Go renaming World->cu,Value->cE,Calls->cI,bodyPost_ret->cJ,wpAny_take->cQ,wpQuiet_nil->cR,results->dc,TypeId->de,maxLen->ds,Program->dy
open Option.some renaming injEq->cw
open Prod.mk renaming injEq->cx
open Bool renaming true->cy,false->cD,and_eq_false_iff->c8,or_eq_false_iff->dI
open Nat renaming le_refl->cz,zero_mul->dm,add_mul->dw,zero_le->dJ
open List renaming getElem?_eq_getElem->cA,getElem_mem->cB,flatten_cons->cG,length_take->cK,take_succ_eq_append_getElem->cO,mem_map->cP,length_tail->cT,map_cons->cW,length_drop->cY,getElem_cons_zero->c0,map_append->c4,length_nil->c5,take_succ_cons->df,flatten_append->dh,nodup_append->dk,take_length->dp,getElem_map->dq,flatten_nil->dr,append_nil->dx,take_zero->dz,drop_eq_getElem_cons->dA,map_nil->dE,drop_of_length_le->dF,mem_of_mem_take->dH,append_assoc->dL
open Go.RowKit renaming Below->cC
open UInt8 renaming ofNat->cF
open Go.Act renaming put->cL
open Go.IntWalk renaming wrap64_in->cM
open Go.Value renaming slice->cU
open Go.World renaming ownsRow_nil->cV,grownBy_alloc->dd,cell?->dG
open Go.ByteArray renaming toList_eq->c6
open Array renaming getElem?_toList->c7
open Go.AllReady renaming cons->c9
open Or renaming inl->dj
open Go.Proofs.Tryz
set_option maxRecDepth 100000
set_option maxHeartbeats 4000000
open Go.Ending renaming returned->gE
open Go.Value renaming slice->ha,string->ht,bool->hA,pointer->hE,tuple->hF
namespace Go.Proofs.YtlefmmhlpgmbjaaGreat
open Go.RowKit
variable {d:ik}{i x y:Int}{n:Nat}{L:List UInt8}{s:ByteArray}
theorem Jj (d:ik) (i:Int):lO d i=(bs (gQ d i),(lO d i).2):=by
 unfold gQ;rw[pz]
theorem wR (h:iW d=0) (c:0<=i) (f:i<d.gG.length):lO d i=(bs (gQ d i),0):=by
 rw[Jj];congr 1;have b:i.toNat<d.gG.length:=oM
 have e:(i.toNat:Int)=i:=oM
 rw[<-e,AG h b]
theorem wS (h:iW d=0) (f:d.size=512) (b:0<=i) (c:i<d.gG.length):(gQ d i).length=512:=by
 rw[Ji h b c,f];rfl
theorem tS {s:List UInt8} {gI gJ:Int} {k v:Nat} (h:jV s gI gJ k=ct (v,n)):
  be (s.take 8)=v/\be ((s.drop 8).take 8)=n/\1<=v/\v<=1099511627776/\n<=1099511627776/\(n=0\/(gI+2<=(n:Int)/\(n:Int)<gJ))/\v % 2=k/\s=jd 512 v n:=by
 unfold jV at h;split at h;rename_i m;obtain⟨b,c,f,g,j,l⟩:=m;simp only[cw,cx] at h;obtain⟨rfl,rfl⟩:=h;exact⟨rfl,rfl,b,c,f,g,j,l⟩;cases h
theorem yX (h:mB n=x): -1<=x/\x<=1099511627776:=by unfold mB at h;split at h<;>omega
theorem yY {m:Nat} (h:mB n=(m:Int)):n=m/\n<=1099511627776:=by unfold mB at h;split at h<;>omega
theorem DJ (f:bs L=s) (_hl:L.length=512) (g:mB (be (L.take 8))=x) (h:mB (be ((L.drop 8).take 8))=y):
  (∀b,cI cr 130 #[ht (s.extract 0 8)] b fun e w'=>e= gE (.int .i64 x)/\w'=b)/\
  (∀b,cI cr 130 #[ht (s.extract 8 16)] b fun e w'=>e= gE (.int .i64 y)/\w'=b):=by
 subst f;constructor;intro b;have:=(DA ((bs L).extract 0 8) b oN).mono fun _ _ c=>(gK c.1 c.2.symm);rw[wP,q7] at this;simp only[List.drop_zero,Nat.sub_zero] at this;rwa[g] at this;intro b;have:=(DA ((bs L).extract 8 16) b oN).mono fun _ _ c=>(gK c.1 c.2.symm);rw[wP,q7] at this;rwa[h] at this
theorem DK (g:bs L=s) (f:L.length=512) (h:mB (be (L.take 8))=x) (j:mB (be ((L.drop 8).take 8))=y):
  (∀b,cI cr 93 #[ht (s.extract 0 8)] b fun e w'=>e= gE (.int .i64 x)/\w'=b)/\
  (∀b,cI cr 93 #[ht (s.extract 8 16)] b fun e w'=>e= gE (.int .i64 y)/\w'=b):=by
 subst g;have l:(bs L).size=512:=by rw[lM,f]
 constructor;intro b;have:=(DC ((bs L).extract 0 8) b oN).mono fun _ _ c=>(gK c.1 c.2.symm);rw[wP,q7] at this;simp only[List.drop_zero,Nat.sub_zero,List.take_take,Nat.min_self] at this;rwa[h] at this;intro b;have:=(DC ((bs L).extract 8 16) b oN).mono fun _ _ c=>(gK c.1 c.2.symm);rw[wP,q7,List.take_take,Nat.min_eq_left oM] at this;rwa[j] at this
theorem Jk (d:ik) (v:cE) (gI gJ:Int) (k:Nat) (V n:Nat) (w:cu) (j:iW d=0) (u:jE d gI gJ=cy) (ad:k<=1) (z:jV (gQ d (gI+k)) gI gJ k=ct (V,n)) (h:iF w v d):
  cI cr 90 #[v, .int .i64 gI, .int .i64 gJ, .int .i64 (gI+k)] w fun e w'=>e= gE (hF #[.int .i64 V, .int .i64 n, hA cy])/\cC w.heap.size w w':=by
 obtain⟨q,Z,aa,ab,ac⟩:=ra u;have ae:=pd (nY j).1;have l:=wS j q (i:=gI+k) oM oM;have m:=wR j (i:=gI+k) oM oM;obtain⟨B,D,ai,O,R,f,ak,p⟩:=tS z;obtain⟨s,c⟩:=nM (bs (gQ d (gI+k)));have af:s.size=512:=by rw[<-c,lM,l]
 obtain⟨S,T⟩:=DJ c l (x:=V) (y:=n) (by rw[B];exact yU O) (by rw[D];exact yU R);have M: ∀b,cI cr 47 #[.int .i64 V, .int .i64 n] b fun e w'=>e= gE (ht s)/\cC b.heap.size b w':=fun b=>by have:=yR V n b;rwa[<-p,c] at this
 rw[c] at m;have al:(V:Int) % 2=(k:Int):=oM
 have A: ∀b g,iF b g d->cI cr 41 #[g, .int .i64 (gI+k)] b fun e w'=>e= gE (hF #[ht s, .int .i64 0])/\cC b.heap.size b w':=fun b g G=>AP d g (gI+k) b G m;have E:=gF A;have I:=h;obtain⟨po,pc,co,cc,rfl⟩:=h.agg;have X:=gF p;clear h u z B D p c l m q A;rcases f with f|⟨f,aj⟩;focus
  have N:((n:Int)!=0)=false:=by simpa using f
  clear f
 rotate_left;focus
  have N:((n:Int)!=0)=true:=oN
  have ah: ¬(n:Int)<gI+2:=oM
 all_goals go_enter dt,di;go_wp2_with fail;refine(E.o _ _ (I.below (Below.one _ _))).mono ?_;rintro e am ⟨rfl,r⟩;have U:=(Bx.new w _ _).gD r;have H:=iq (Below.one _ _) r;go_wp2_with fail;go_quiet ((first| (go_at_call 130;with_reducible exact cq (S _))| (go_at_call 130;with_reducible exact cq (T _))));have W:=U.drewN nq;obtain⟨Y,ag⟩:=W.c2;go_wp2_with fail;refine(M _).mono ?_;rintro e ao ⟨rfl,J⟩;go_wp2;refine cJ (v:= hF #[.int .i64 V, .int .i64 n, hA cy]) (by simp[dc,da,go_sem]) rfl ?_;exact⟨rfl,iq (Below.drewN H nq) J⟩
theorem Jl (d:ik) (v:cE) (gI gJ:Int) (k:Nat) (w:cu) (D:iW d=0) (T:jE d gI gJ=cy) (aF:k<=1) (U:jV (gQ d (gI+k)) gI gJ k=cv) (A:iF w v d):
  cI cr 90 #[v, .int .i64 gI, .int .i64 gJ, .int .i64 (gI+k)] w fun e w'=>(∃x y,e= gE (hF #[.int .i64 x, .int .i64 y, hA cD]))/\cC w.heap.size w w':=by
 obtain⟨N,aA,aB,aC,aD⟩:=ra T;have aG:=pd (nY D).1;have E:=wS D N (i:=gI+k) oM oM;have G:=wR D (i:=gI+k) oM oM;obtain⟨s,j⟩:=nM (bs (gQ d (gI+k)));have Z:s.data.toList=gQ d (gI+k):=by rw[<-j,q7]
 have aH:s.size=512:=by rw[<-j,lM,E]
 obtain⟨x,p⟩:=nM (mB (be ((gQ d (gI+k)).take 8)));obtain⟨y,q⟩:=nM (mB (be (((gQ d (gI+k)).drop 8).take 8)));obtain⟨H,I⟩:=DJ j E p q;have ay:=yX p;have az:=yX q;rw[j] at G;have Y: ∀f u,iF f u d->cI cr 41 #[u, .int .i64 (gI+k)] f fun e w'=>e= gE (hF #[ht s, .int .i64 0])/\cC f.heap.size f w':=fun f u g=>AP d u (gI+k) f g G;have z:=gF Y;have B:=A;obtain⟨po,pc,co,cc,rfl⟩:=A.agg;have ag:=gF p;have ah:=gF q;have ad:=gF U;have af:=gF Z;clear A T U j E G N Y p q Z;cases O:decide (x<1);rotate_left;focus have ak:=of_decide_eq_true O
 rotate_left;focus
  have ak:=of_decide_eq_false O;obtain⟨V,rfl⟩: ∃V:Nat,x=V:=⟨x.toNat,oM⟩;obtain⟨ar,c⟩:=nM ((decide (y=0)||(decide (gI+2<=y)&&decide (y<gJ))));cases ar
  case' false=>
   simp only[dI,decide_eq_false_iff_not,c8] at c;obtain⟨ab,aq⟩:=c;have r:(y !=0)=true:=by simpa using ab
   clear ab;cases R:decide (y<gI+2);rotate_left;focus have al:=of_decide_eq_true R
   rotate_left;have al:=of_decide_eq_false R;have aE:gJ<=y:=oM
  rotate_left 2
  case' true=>
   obtain⟨n,rfl⟩: ∃n:Nat,y=n:=⟨y.toNat,by simp at c;omega⟩;have J:=gF c;have X:((n:Int)!=0)=cD\/(((n:Int)!=0)=cy/\ ¬(n:Int)<gI+2/\(n:Int)<gJ):=by simp at c;rcases c with g|g;exact .inl (by simpa using g);exact .inr ⟨oN,oM,g.2⟩
   clear c;cases S:decide ((V:Int) % 2=(k:Int));.
    have am: ¬(gI+(k:Int)=gI+(V:Int) % 2):=by have:=of_decide_eq_false S;omega
    rcases X with r|⟨r,au,av⟩;all_goals go_enter dt,di;go_wp2_with fail;refine(z.o _ _ (B.below (Below.one _ _))).mono ?_;rintro e ac ⟨rfl,b⟩;have l:=(Bx.new w _ _).gD b;have h:=iq (Below.one _ _) b;go_wp2_with fail;go_quiet ((first| (go_at_call 130;with_reducible exact cq (H _))| (go_at_call 130;with_reducible exact cq (I _))));have m:=l.drewN nq;obtain⟨M,aa⟩:=m.c2;go_wp2;refine cJ (v:= hF #[.int .i64 V, .int .i64 n, hA cD]) (by simp[dc,da,go_sem]) rfl ?_;exact⟨⟨_,_,rfl⟩,Below.drewN h nq⟩
   have am:=of_decide_eq_true S;have W: ¬jd 512 V n=s.toList:=by intro e;rw[c6,af.o] at e;obtain⟨ai,aw⟩:=yY ag.o;obtain⟨aj,ax⟩:=yY ah.o;have:=ad.o;unfold jV at this;have ap:=J.o;simp at ap;rw[if_pos ⟨oM,oM,oM,oM,oM,by rw[ai,aj];exact e.symm⟩] at this;cases this
   have ae:=gF W;clear J W;rcases X with r|⟨r,au,av⟩;all_goals go_enter dt,di;go_wp2_with fail;refine(z.o _ _ (B.below (Below.one _ _))).mono ?_;rintro e ac ⟨rfl,b⟩;have l:=(Bx.new w _ _).gD b;have h:=iq (Below.one _ _) b;go_wp2_with fail;go_quiet ((first| (go_at_call 130;with_reducible exact cq (H _))| (go_at_call 130;with_reducible exact cq (I _))));have m:=l.drewN nq;obtain⟨M,aa⟩:=m.c2;go_wp2_with fail;refine(yR _ _ _).mono ?_;rintro e aI ⟨rfl,ao⟩;go_wp2;refine cJ (v:= hF #[.int .i64 V, .int .i64 n, hA cD]) (by simp[dc,da,go_sem,ae.o]) rfl ?_;exact⟨⟨_,_,rfl⟩,iq (Below.drewN h nq) ao⟩
  all_goals clear aq
 all_goals go_enter dt,di;go_wp2_with fail;refine(z.o _ _ (B.below (Below.one _ _))).mono ?_;rintro e ac ⟨rfl,b⟩;have l:=(Bx.new w _ _).gD b;have h:=iq (Below.one _ _) b;go_wp2_with fail;go_quiet ((first| (go_at_call 130;with_reducible exact cq (H _))| (go_at_call 130;with_reducible exact cq (I _))));have m:=l.drewN nq;obtain⟨M,aa⟩:=m.c2;go_wp2;refine cJ (v:= hF #[.int .i64 0, .int .i64 0, hA cD]) (by simp[dc,da,go_sem]) rfl ?_;exact⟨⟨_,_,rfl⟩,Below.drewN h nq⟩
theorem Jm (d:ik) (v:cE) (gI gJ:Int) (k:Nat) (V n:Nat) (w:cu) (j:iW d=0) (r:jE d gI gJ=cy) (ac:k<=1) (u:jV (gQ d (gI+k)) gI gJ k=ct (V,n)) (h:iF w v d):
  cI cr 54 #[v, .int .i64 gI, .int .i64 gJ, .int .i64 k] w fun e w'=>e= gE (hF #[.int .i64 V, .int .i64 n])/\cC w.heap.size w w':=by
 obtain⟨p,Y,Z,aa,ab⟩:=ra r;have ad:=pd (nY j).1;have l:=wS j p (i:=gI+k) oM oM;have m:=wR j (i:=gI+k) oM oM;obtain⟨A,B,ah,O,R,f,aj,D⟩:=tS u;obtain⟨s,c⟩:=nM (bs (gQ d (gI+k)));have ae:s.size=512:=by rw[<-c,lM,l]
 obtain⟨S,T⟩:=DK c l (x:=V) (y:=n) (by rw[A];exact yU O) (by rw[B];exact yU R);have M: ∀b,cI cr 52 #[.int .i64 V, .int .i64 n] b fun e w'=>e= gE (ht s)/\cC b.heap.size b w':=fun b=>by have:=yT V n b;rwa[<-D,c] at this
 rw[c] at m;have ak:(V:Int) % 2=(k:Int):=oM
 have z: ∀b g,iF b g d->cI cr 92 #[g, .int .i64 (gI+k)] b fun e w'=>e= gE (hF #[ht s, .int .i64 0])/\cC b.heap.size b w':=fun b g G=>by have:=Aw d g (gI+k) b G;rw[m] at this;exact this
 have E:=gF z;have I:=h;obtain⟨po,pc,co,cc,rfl⟩:=h.agg;clear h r u A B D c l m p z;rcases f with f|⟨f,ai⟩;focus
  have N: ¬(0:Int)<(n:Int):=oM
  clear f
 rotate_left;focus
  have N:(0:Int)<(n:Int):=oM
  have ag: ¬(n:Int)<gI+2:=oM
 all_goals go_enter db,cZ;go_wp2_with fail;refine(E.o _ _ (I.below (Below.one _ _))).mono ?_;rintro e al ⟨rfl,q⟩;have U:=(Bx.new w _ _).gD q;have H:=iq (Below.one _ _) q;go_wp2_with fail;go_quiet ((first| (go_at_call 93;with_reducible exact cq (S _))| (go_at_call 93;with_reducible exact cq (T _))));have W:=U.drewN nq;obtain⟨X,af⟩:=W.c2;go_wp2_with fail;refine(M _).mono ?_;rintro e am ⟨rfl,J⟩;go_wp2;go_ret2;exact⟨rfl,iq (Below.drewN H nq) J⟩
theorem Jn (d:ik) (v:cE) (gI gJ:Int) (k:Nat) (w:cu) (H:iW d=0) (X:jE d gI gJ=cy) (aF:k<=1) (Y:jV (gQ d (gI+k)) gI gJ k=cv) (G:iF w v d):
  cI cr 54 #[v, .int .i64 gI, .int .i64 gJ, .int .i64 k] w fun e w'=>e= gE (hF #[.int .i64 0, .int .i64 0])/\cC w.heap.size w w':=by
 obtain⟨R,aA,aB,aC,aD⟩:=ra X;have aH:=pd (nY H).1;have I:=wS H R (i:=gI+k) oM oM;have J:=wR H (i:=gI+k) oM oM;obtain⟨s,l⟩:=nM (bs (gQ d (gI+k)));have ab:s.data.toList=gQ d (gI+k):=by rw[<-l,q7]
 have aI:s.size=512:=by rw[<-l,lM,I]
 obtain⟨x,r⟩:=nM (mB (be ((gQ d (gI+k)).take 8)));obtain⟨y,u⟩:=nM (mB (be (((gQ d (gI+k)).drop 8).take 8)));obtain⟨A,B⟩:=DK l I r u;have ay:=yX r;have az:=yX u;rw[l] at J;have aa: ∀h D,iF h D d->cI cr 92 #[D, .int .i64 (gI+k)] h fun e w'=>e= gE (hF #[ht s, .int .i64 0])/\cC h.heap.size h w':=fun h D p=>by have:=Aw d D (gI+k) h p;rw[J] at this;exact this
 have m:=gF aa;have q:=G;obtain⟨po,pc,co,cc,rfl⟩:=G.agg;have ae:=gF r;have af:=gF u;have ac:=gF Y;have ad:=gF ab;clear G X Y l I J R aa r u ab;cases T:decide (x<1);rotate_left;. have aj:=of_decide_eq_true T;go_enter db,cZ;go_wp2_with fail;refine(m.o _ _ (q.below (Below.one _ _))).mono ?_;rintro e N ⟨rfl,b⟩;have f:=(Bx.new w _ _).gD b;have c:=iq (Below.one _ _) b;go_wp2_with fail;go_quiet ((first| (go_at_call 93;with_reducible exact cq (A _))| (go_at_call 93;with_reducible exact cq (B _))));have g:=f.drewN nq;obtain⟨E,M⟩:=g.c2;go_wp2;go_ret2;exact⟨rfl,Below.drewN c nq⟩
 have aj:=of_decide_eq_false T;obtain⟨V,rfl⟩: ∃V:Nat,x=V:=⟨x.toNat,oM⟩;cases S:decide (y<0);rotate_left;focus have ai:=of_decide_eq_true S
 rotate_left;focus
  have ai:=of_decide_eq_false S;obtain⟨n,rfl⟩: ∃n:Nat,y=n:=⟨y.toNat,oM⟩;obtain⟨ar,j⟩:=nM ((decide ((n:Int)=0)||(decide (gI+2<=(n:Int))&&decide ((n:Int)<gJ))));cases ar
  case' false=>
   simp only[dI,decide_eq_false_iff_not,c8] at j;obtain⟨ap,aq⟩:=j;have z:(0:Int)<(n:Int):=oM
   clear ap;cases U:decide ((n:Int)<gI+2);rotate_left;focus have ak:=of_decide_eq_true U
   rotate_left;have ak:=of_decide_eq_false U;have aE:gJ<=(n:Int):=oM
  rotate_left 2
  case' true=>
   have O:=gF j;have Z: ¬(0:Int)<(n:Int)\/((0:Int)<(n:Int)/\ ¬(n:Int)<gI+2/\(n:Int)<gJ):=by simp at j;rcases j with p|p;exact .inl oM;exact .inr ⟨oM,oM,p.2⟩
   clear j;cases W:decide ((V:Int) % 2=(k:Int));. have al:=of_decide_eq_false W;rcases Z with z|⟨z,au,av⟩;all_goals go_enter db,cZ;go_wp2_with fail;refine(m.o _ _ (q.below (Below.one _ _))).mono ?_;rintro e N ⟨rfl,b⟩;have f:=(Bx.new w _ _).gD b;have c:=iq (Below.one _ _) b;go_wp2_with fail;go_quiet ((first| (go_at_call 93;with_reducible exact cq (A _))| (go_at_call 93;with_reducible exact cq (B _))));have g:=f.drewN nq;obtain⟨E,M⟩:=g.c2;go_wp2;go_ret2;exact⟨rfl,Below.drewN c nq⟩
   have al:=of_decide_eq_true W;have aG:(jd 512 V n==s.toList)=false:=by rw[beq_eq_false_iff_ne];intro e;rw[c6,ad.o] at e;obtain⟨ag,aw⟩:=yY ae.o;obtain⟨ah,ax⟩:=yY af.o;have:=ac.o;unfold jV at this;have ao:=O.o;simp at ao;rw[if_pos ⟨oM,oM,oM,oM,oM,by rw[ag,ah];exact e.symm⟩] at this;cases this
   clear O;rcases Z with z|⟨z,au,av⟩;all_goals go_enter db,cZ;go_wp2_with fail;refine(m.o _ _ (q.below (Below.one _ _))).mono ?_;rintro e N ⟨rfl,b⟩;have f:=(Bx.new w _ _).gD b;have c:=iq (Below.one _ _) b;go_wp2_with fail;go_quiet ((first| (go_at_call 93;with_reducible exact cq (A _))| (go_at_call 93;with_reducible exact cq (B _))));have g:=f.drewN nq;obtain⟨E,M⟩:=g.c2;go_wp2_with fail;refine(yT _ _ _).mono ?_;rintro e aJ ⟨rfl,am⟩;go_wp2;go_ret2;exact⟨rfl,iq (Below.drewN c nq) am⟩
  all_goals clear aq
 all_goals go_enter db,cZ;go_wp2_with fail;refine(m.o _ _ (q.below (Below.one _ _))).mono ?_;rintro e N ⟨rfl,b⟩;have f:=(Bx.new w _ _).gD b;have c:=iq (Below.one _ _) b;go_wp2_with fail;go_quiet ((first| (go_at_call 93;with_reducible exact cq (A _))| (go_at_call 93;with_reducible exact cq (B _))));have g:=f.drewN nq;obtain⟨E,M⟩:=g.c2;go_wp2;go_ret2;exact⟨rfl,Below.drewN c nq⟩
section
variable {P:dy} {ops:Array Oper} {rest:List Oper} {o:Oper} {a:Act} {Q:Exit->Act->cu->Prop} {w:cu}
end
open Go.RowKit Go.Shelf
attribute [local go_sem] Oper.semAt_some
theorem info_parts {P:dy} {t:de} {z:cE} {n b:Nat} (h:(P.info? t).map (fun i=>(i.zero,i.size,i.bytes))=ct (ct z,n,b)): ∃i,P.info? t=ct i/\i.zero=ct z/\i.size=n/\i.bytes=b:=by
 cases c:P.info? t with
 | none=>simp[c] at h
 | some i=>simp[c] at h;exact⟨i,rfl,h.1,h.2.1,h.2.2⟩
section
attribute [local go_sem] Oper.semAt_some
end
variable {t e:de}{w w':cu}{gM size n k:Nat}{v:cE}{xs:List cE}
theorem xA {α:Type} {m:Nat}: ∀{L:List (List α)},(∀x∈L,x.length=m)->L.flatten.length=L.length * m
 | [],_=>oC
 | x::L,h=>by rw[cG,iI,h x oC,xA (L:=L) (fun y b=>h y (by simp[b])),j1,dw];omega
theorem kL {α:Type} {m:Nat}: ∀{L:List (List α)},(∀x∈L,x.length=m)-> ∀(i r:Nat),r<m->L.flatten[i * m+r]?=L[i]?.bind (·[r]?)
 | [],_,i,r,_=>oC
 | x::L,h,0,r,hr=>by rw[cG,dm,Nat.zero_add,List.getElem?_append_left (by rw[h x oC];exact hr)];rfl
 | x::L,h,i+1,r,hr=>by rw[cG,List.getElem?_append_right (by rw[h x oC,dw];omega),h x oC,show(i+1) * m+r - m=i * m+r by rw[dw];omega,kL (L:=L) (fun y b=>h y (by simp[b])) i r hr];rfl
def mJ (t:de) (w w':cu):Prop:= ∀(b:Nat) (cs:Array cE) (t':de),t'≠t->Bx w b cs t'->Bx w' b cs t'
theorem mJ.trans {a b c:cu} (h:mJ t a b) (k:mJ t b c):mJ t a c:=fun b f j g l=>k b f j g (h b f j g l)
theorem mJ.alloc (t:de) (w:cu) (o:Obj):mJ t w (w.alloc o):=fun _ _ _ _ b=>b.alloc o
theorem mJ.grown (h:w.ownsRow gM t size v n xs) (f:w.grownBy w' v.ownBlock):mJ t w w':=
 fun _ _ _ g b=>b.grown f fun e=>nu h b (fun c=>g c.symm) e.symm
theorem Below.jq {b:cu} (h:cC gM b w) (f:w.ownsRow gM t size v n xs) (c:w.grownBy w' v.ownBlock) (g:gM<=w.heap.size):cC gM b w':=
 h.grown c g fun k e=>(f.lt k e).1
theorem vL (s:ByteArray):(jH s).length=s.size+1:=by unfold jH;rw[j1,Array.length_toList];rfl
theorem nI (n:Nat):(cF n).toNat=n % 256:=oC
theorem Jo (s:ByteArray):Lib.strCells s=lH s.data.toList:=by simp[Lib.strCells,lH]
theorem AU (gM:Nat) (v:cE) (l:List UInt8) (s:ByteArray) (w:cu) (f:w.ownsRow gM 5 1 v l.length (lH l)) (D:gM<=w.heap.size) (M:s.size<=1000000) (E:l.length<=1000000):
  cI cr 160 #[v, ht s] w fun e w'=> ∃v',e= gE v'/\w'.ownsRow gM 5 1 v' (l++jH s).length (lH (l++jH s))/\cC gM w w'/\mJ 5 w w':=by
 obtain⟨z,p,q,r,u⟩:=info_parts Ax;obtain⟨c,g⟩: ∃c:UInt8,cF s.size=c:=⟨_,rfl⟩;have N:((s.size:Int) % 256)=(c.toNat:Int):=by rw[<-g,nI];omega
 have A:=gF g;clear g;obtain⟨n,h⟩:=nM l.length;rw[h] at f E;have B:=gF h;clear h;go_enter func160,ntmps160;go_wp2_with (first
  | (at_builtin;refine o8 rfl _ _ 139 rfl gM 5 z _ 1 1 cH p q r u rfl oF _ n _ rfl (f.alloc _) _ 1 1 (lH [c]) rfl (by intro e;cases e) rfl (gO.bx (Bx.new w _ _)) (CM _) (by unfold ds;omega) oM oN ?_;intro O J j b)
  | (at_builtin;refine Lib.wpList_append_own_string _ rfl _ _ 139 9 rfl gM 5 z cH cS p q r u _ (n+1) _ rfl j s rfl (by unfold ds;omega) oM (by have:=b.size;simp at this;omega) ?_;intro I R G m _))
 go_ret;have H:gM<=J.heap.size:=by have:=b.size;simp at this;omega
 refine⟨I,rfl,?_,?_,?_⟩;rw[iI,vL,B.o];have:lH (l++jH s)=lH l++lH [c]++Lib.strCells s:=by rw[Jo, <-A.o];simp[lH,jH]
 rw[this,show n+(s.size+1)=n+1+s.size by omega];exact G;exact Below.jq (Below.jq ((Below.refl _ w).alloc D _) (f.alloc _) b oN) j m H;exact((mJ.alloc _ w _).trans (mJ.grown (f.alloc _) b)).trans (mJ.grown j m)
def uI (p:Kv):List cE:=[ht p.1, ht p.2]
def gV (l:List Kv):List cE:=(l.map uI).flatten
theorem DL (l:List Kv): ∀x∈l.map uI,x.length=2:=by
 intro x b;obtain⟨c,_,rfl⟩:=cP.1 b;rfl
theorem uJ (l:List Kv):(gV l).length=l.length * 2:=by
 unfold gV
 induction l with
 | nil=>rfl
 | cons c l b=>rw[cW,cG,iI,b,j1];simp[uI];omega
theorem sw (l m:List Kv):gV (l++m)=gV l++gV m:=by simp[gV]
theorem yZ {l:List Kv} {i:Nat} (h:i<l.length):(gV l)[i * 2]?=ct (ht l[i].1)/\(gV l)[i * 2+1]?=ct (ht l[i].2):=by
 have b:=kL (DL l) i 0 oM;have c:=kL (DL l) i 1 oM;rw[List.getElem?_map,cA h] at b c;exact⟨b,c⟩
theorem tT (l:List Kv): ∀u∈gV l,u.oneCell'=true:=by
 intro u b;obtain⟨x,c,b⟩:=List.mem_flatten.1 b;obtain⟨f,_,rfl⟩:=cP.1 c;simp[uI] at b;rcases b with rfl|rfl<;>rfl
theorem vM {α:Type} {l m:List α} {j:Nat} (h:l.take n=m) (c:j<m.length):l[j]?=ct m[j]:=by
 subst h;have b:j<n/\j<l.length:=by rw[cK] at c;omega
 rw[List.getElem_take,cA b.2]
def gW (w:cu) (gM:Nat) (e:de) (k:Nat) (v:cE) (n:Nat) (xs:List cE):Prop:=
 xs.length=n * k/\((v= ha cv 0 0/\n=0)\/
  ∃g cap cur,v= ha (ct ⟨g,0,cv⟩) n cap/\gM<=g/\w.heap[g]?=ct (.cells cur e (0,0))/\n<=cap/\cap<=ds/\cap * k<=cur.size/\cur.toList.take (n * k)=xs)
theorem gW.own (h:w.ownsRow gM e k v n xs):gW w gM e k v n xs:=by
 refine⟨h.1,?_⟩;rcases h.2 with h|⟨f,b,c,g,j,l,m,p,r,q⟩;exact .inl h;exact .inr ⟨f,b,c,g,j,l,m,p,oM,q⟩
theorem gW.lt (h:gW w gM e k v n xs): ∀g,v.ownBlock=ct g->gM<=g/\g<w.heap.size:=by
 intro g b;rcases h.2 with⟨rfl,_⟩|⟨m,j,l,rfl,c,f,_⟩;simp[Value.ownBlock] at b;simp[Value.ownBlock] at b;subst b;exact⟨c,(Array.getElem?_eq_some_iff.1 f).1⟩
theorem gW.same (h:gW w gM e k v n xs) (m: ∀g,v.ownBlock=ct g->w'.heap[g]?=w.heap[g]?):gW w' gM e k v n xs:=by
 refine⟨h.1,?_⟩;rcases h.2 with h|⟨g,b,c,rfl,f,j,l⟩;exact .inl h;exact .inr ⟨g,b,c,rfl,f,(m g rfl).trans j,l⟩
theorem gW.at (h:gW w gM e k v n xs):
  ∃o c,v= ha o n c/\jk o n c/\gO (fun g=>v.ownBlock=ct g) w o xs:=by
 rcases h.2 with⟨rfl,rfl⟩|⟨g,f,j,rfl,A,m,r,l,B,u⟩;have z:xs=[]:=List.eq_nil_of_length_eq_zero (by simpa using h.1);subst z;exact⟨cv,0,rfl, .inl ⟨rfl,rfl,rfl⟩,gO.nil _ _ _⟩;refine⟨_,f,rfl, .inr ⟨_,rfl,r,l⟩,?_⟩;intro b p;refine⟨g,0,rfl,?_,rfl⟩;have q:j.toList[b]?=ct xs[b]:=vM u p;simp[dG,m];rw[<-c7];exact q
inductive AT where
 | mk (b:Nat) (pv kv:cE) (ps:List Kv) (gC:List AT) (page:Int)
def AT.b:AT->Nat| .mk b _ _ _ _ _=>b
def AT.pv:AT->cE| .mk _ v _ _ _ _=>v
def AT.kv:AT->cE| .mk _ _ v _ _ _=>v
def AT.ps:AT->List Kv| .mk _ _ _ l _ _=>l
def AT.gC:AT->List AT| .mk _ _ _ _ l _=>l
def AT.page:AT->Int| .mk _ _ _ _ _ p=>p
theorem AT.ind {P:AT->Prop} (h: ∀b g f ps gC page,(∀k∈gC,P k)->P (.mk b g f ps gC page)) (n:AT):P n:=
 AT.rec (motive_1:=P) (motive_2:=fun j=> ∀k∈j,P k) (fun b g f ps gC page p=>h b g f ps gC page p) (fun k c=>by cases c)
  (fun x j m l k c=>(j4.1 c).elim (fun e=>e▸m) (l k)) n
def AT.ptr (t:AT):cE:= hE (ct ⟨t.b,0,cv⟩)
mutual
def AT.nd:AT->Nd
 | .mk _ _ _ ps gC page=> .mk ps (AT.uK gC) page
def AT.uK:List AT->List Nd
 | []=>[]
 | t::l=>t.nd::AT.uK l
end
theorem AT.vN (l:List AT):AT.uK l=l.map AT.nd:=by
 induction l with
 | nil=>rfl
 | cons x l b=>rw[AT.uK,b];rfl
theorem AT.pB (t:AT):t.nd= .mk t.ps (t.gC.map AT.nd) t.page:=by
 cases t with|mk b pv kv ps gC page=>rw[AT.nd,AT.vN];rfl
theorem AT.gT (t:AT):t.nd.gC=t.gC.map AT.nd:=by rw[AT.pB];rfl
theorem AT.jb (t:AT):t.nd.ps=t.ps:=by rw[AT.pB];rfl
theorem AT.ql (t:AT):t.nd.page=t.page:=by rw[AT.pB];rfl
mutual
def AT.fp:AT->List Nat
 | .mk b pv kv _ gC _=>b::(pv.ownBlock.toList++(kv.ownBlock.toList++AT.iO gC))
def AT.iO:List AT->List Nat
 | []=>[]
 | t::l=>t.fp++AT.iO l
end
theorem AT.oD (l:List AT):AT.iO l=(l.map AT.fp).flatten:=by
 induction l with
 | nil=>rfl
 | cons x l b=>rw[AT.iO,b];rfl
theorem AT.iK {l:List AT} {x:Nat}:x∈AT.iO l↔ ∃t∈l,x∈t.fp:=by
 rw[AT.oD,List.mem_flatten];constructor;rintro⟨y,f,c⟩;obtain⟨t,b,rfl⟩:=cP.1 f;exact⟨t,b,c⟩;rintro⟨t,b,c⟩;exact⟨_,cP.2 ⟨t,b,rfl⟩,c⟩
def gX (leaf:Bool) (pv kv:cE) (page:Int):Array cE:=#[hA leaf,pv,kv, .int .i64 page]
inductive h9 (gM:Nat) (w:cu):AT->Prop
 | mk (b:Nat) (pv kv:cE) (ps:List Kv) (gC:List AT) (page:Int) (hb:gM<=b) (hx:Bx w b (gX gC.isEmpty pv kv page) 129)
  (hp:gW w gM 77 2 pv ps.length (gV ps)) (hk:gW w gM 88 1 kv gC.length (gC.map AT.ptr)) (hc: ∀t∈gC,h9 gM w t):h9 gM w (.mk b pv kv ps gC page)
theorem h9.hb {gM:Nat} {w:cu} {t:AT} (h:h9 gM w t):gM<=t.b:=by cases h;assumption
theorem h9.hx {gM:Nat} {w:cu} {t:AT} (h:h9 gM w t):Bx w t.b (gX t.gC.isEmpty t.pv t.kv t.page) 129:=by cases h;assumption
theorem h9.hp {gM:Nat} {w:cu} {t:AT} (h:h9 gM w t):gW w gM 77 2 t.pv t.ps.length (gV t.ps):=by cases h;assumption
theorem h9.hk {gM:Nat} {w:cu} {t:AT} (h:h9 gM w t):gW w gM 88 1 t.kv t.gC.length (t.gC.map AT.ptr):=by cases h;assumption
theorem h9.hc {gM:Nat} {w:cu} {t:AT} (h:h9 gM w t): ∀c∈t.gC,h9 gM w c:=by cases h;assumption
theorem h9.lt {gM:Nat} {w:cu}: ∀{t:AT},h9 gM w t-> ∀x∈t.fp,gM<=x/\x<w.heap.size:=by
 intro t
 induction t using AT.ind with
 | h q B u A r z p=>intro h x b;have c:=h.hb;have f:=h.hx.lt;have g:=h.hp.lt;have j:=h.hk.lt;have l:=h.hc;simp only[AT.b,AT.pv,AT.kv,AT.gC] at c f g j l;rw[AT.fp,j4,jD,jD] at b;rcases b with rfl|b|b|b;exact⟨c,f⟩;exact g x (by simpa using b);exact j x (by simpa using b);obtain⟨t,m,b⟩:=AT.iK.1 b;exact p t m (l t m) x b
theorem h9.same {gM:Nat} {w w':cu}: ∀{t:AT},h9 gM w t->(∀x∈t.fp,w'.heap[x]?=w.heap[x]?)->h9 gM w' t:=by
 intro t
 induction t using AT.ind with
 | h q E A D z B u=>intro h b;have g:=h.hb;have j:=h.hx;have l:=h.hp;have m:=h.hk;have p:=h.hc;simp only[AT.b,AT.pv,AT.kv,AT.gC,AT.ps,AT.page] at g j l m p;simp only[AT.fp,j4,jD] at b;refine .mk _ _ _ _ _ _ g ((b q (.inl rfl)).trans j) (l.same fun c e=>b c (.inr (.inl (by simpa using e)))) (m.same fun c e=>b c (.inr (.inr (.inl (by simpa using e))))) ?_;intro t f;exact u t f (p t f) fun x r=>b x (.inr (.inr (.inr (AT.iK.2 ⟨t,f,r⟩))))
theorem h9.stays {gM B:Nat} {w w':cu} {t:AT} (h:h9 gM w t) (c:cC B w w') (b:w.heap.size<=B):h9 gM w' t:=
 h.same fun x f=>c.block x (iU (h.lt x f).2 b)
theorem h9.ij {gM:Nat} {w w':cu} {t:AT} (h:h9 gM w t) (b:cC w.heap.size w w'):h9 gM w' t:=h.stays b (cz _)
def Nd.first:Nd->Bool
 | .mk ps [] _=> !ps.isEmpty
 | .mk _ (k::_) _=>k.first
def AT.ll:AT->Nat
 | .mk _ _ _ _ [] _=>0
 | .mk _ _ _ _ (k::_) _=>k.ll+1
theorem qH {w:cu} {gM:Nat} {e:de} {v:cE} {l:List AT} (h:gW w gM e 1 v l.length (l.map AT.ptr)) {i:Nat} (p:i<l.length):
  ∃b c,v= ha (ct ⟨b,0,cv⟩) l.length c/\w.cell? ⟨b,i,cv⟩=ct l[i].ptr/\l.length<=c/\v.ownBlock=ct b:=by
 rcases h.2 with⟨rfl,z⟩|⟨j,f,g,rfl,A,m,r,B,D,u⟩;omega;refine⟨j,f,rfl,?_,r,rfl⟩;have q:g.toList[i]?=ct l[i].ptr:=by rw[vM u (by simpa using p),dq]
 simp[dG,m];rw[<-c7];exact q
theorem vO {w:cu} {gM:Nat} {e:de} {v:cE} {l:List Kv} (h:gW w gM e 2 v l.length (gV l)) {i:Nat} (z:i<l.length):
  ∃b c,v= ha (ct ⟨b,0,cv⟩) l.length c/\w.cell? ⟨b,i * 2,cv⟩=ct (ht l[i].1)/\w.cell? ⟨b,i * 2+1,cv⟩=ct (ht l[i].2)/\l.length<=c/\v.ownBlock=ct b:=by
 rcases h.2 with⟨rfl,E⟩|⟨j,p,D,rfl,G,u,A,H,J,B⟩;omega;have I:=uJ l;obtain⟨q,r⟩:=yZ z;have g: ∀f,f<(gV l).length->w.cell? ⟨j,f,cv⟩=(gV l)[f]?:=by intro f m;have:=vM B m;simp[dG,u];rw[<-c7,this,cA m]
 exact⟨j,p,rfl,(g _ oM).trans q,(g _ oM).trans r,A,rfl⟩
theorem DM (gM:Nat) (t:AT) (w:cu) (h:h9 gM w t) (N:t.nd.first=cy):
  cI cr 137 #[t.ptr] w fun e w'=>e= gE (ht t.nd.ie)/\w'=w:=by
 go_enter func137,ntmps137;go_wp2
 go_loopg [0] t.ll (fun k V wr=> ∃s:AT,V=s.ptr/\Hid (h9 gM w s/\s.nd.ie=t.nd.ie/\s.nd.first=cy/\s.ll=k)/\wr=w)
 case atStart=>exact⟨t,rfl,gF ⟨h,rfl,N,rfl⟩,rfl⟩
 case round=>
  obtain⟨s,rfl,A,rfl⟩:=hrel;obtain⟨g,l,f,B⟩:=A.o;obtain⟨M,Y,T,j,S,W⟩:=s;have m:=g.hx;have z:=g.hp;have u:=g.hk;have r:=g.hc;simp only[AT.b,AT.pv,AT.kv,AT.ps,AT.gC,AT.page] at m z u r;simp only[AT.ptr,AT.b];cases S with
  | nil=>
   have H:0<j.length:=by
    rw[AT.nd,AT.uK,Nd.first] at f;cases j with
    | nil=>simp at f
    | cons=>simp
   obtain⟨E,D,rfl,p,-,O,-⟩:=vO z H;rw[dm] at p;obtain⟨q,U⟩:=m.c2;unfold gX at q;have I:(AT.mk M (ha (ct ⟨E,0,cv⟩) j.length D) T j [] W).nd.ie=j[0].1:=by
    cases j with
    | nil=>simp at H
    | cons x X=>rw[AT.nd,AT.uK,Nd.ie];rfl
   rw[I] at l;have c:=gF l;clear g A l f B r m z u I;go_wp2;go_ret;exact⟨by rw[<-c.o];rfl,rfl⟩
  | cons b J=>
   obtain⟨E,D,rfl,p,O,-⟩:=qH (i:=0) u oC;rw[c0] at p;obtain⟨q,U⟩:=m.c2;unfold gX at q;have G:=r b oC;have c:Hid (h9 gM wr b/\b.nd.ie=t.nd.ie/\b.nd.first=cy/\b.ll+1=gk):=gF ⟨G,by rw[<-l,AT.nd,AT.uK,Nd.ie],by rw[AT.nd,AT.uK,Nd.first] at f;exact f,by rw[<-B,AT.ll]⟩;obtain⟨n,R⟩: ∃n,(b::J).length=n+1:=⟨J.length,oC⟩;rw[R] at q;unfold AT.ptr at p;clear g A l f B r m z u G;go_wp2
   go_roundg b.ll
   case rel=>exact⟨b,rfl,gF ⟨c.o.1,c.o.2.1,c.o.2.2.1,rfl⟩,rfl⟩
   case measure=>have:=c.o.2.2.2;omega
section
variable {P:dy} {Q:Exit->Act->cu->Prop} {a:Act} {w:cu}
theorem qm {id:Nat} {l:List Oper} (listed:Array Bool) (fuel:Nat) (f:P.follows .mixedOrders=cy) (c:Array.replicate l.length cD=listed) (b:l.length=fuel) (h:wpAny P .any l.toArray Q fuel listed a w.drew):(Code.region id l.toArray cy).wp P Q a w:=by
 refine wp_region_any f ?_;have e:l.toArray.size=fuel:=by simpa using b
 rw[e, <-b,c,b];exact h
end
def k6 (p:Kv):Prop:=p.1.size<=48/\p.2.size<=80
def lC (n:Nd):Prop:=(n.gC=[]/\n.ps.length<=3/\ ∀p∈n.ps,k6 p)\/(2<=n.gC.length/\n.gC.length<=8/\ ∀k∈n.gC,k.first=cy/\k.ie.size<=48/\0<=k.page/\k.page<=1000000)
def tD (p:Kv):List UInt8:=jH p.1++jH p.2
theorem Jp {p:Kv} (h:k6 p):(tD p).length<=130:=by
 unfold tD;rw[iI,vL,vL];have:=h.1;have:=h.2;omega
theorem y0 {α:Type} {f:α->List UInt8} {m:Nat}: ∀{l:List α},(∀x∈l,(f x).length<=m)->((l.map f).flatten).length<=l.length * m
 | [],_=>oC
 | x::l,h=>by have c:=h x oC;have g:=y0 (f:=f) (l:=l) fun y b=>h y (by simp[b]);rw[cW,cG,iI,j1,dw];omega
def qp (ps:List Kv) (k:Nat):List UInt8:=76::cF ps.length::((ps.take k).map tD).flatten
theorem AV (ps:List Kv):qp ps ps.length=j5 ps:=by unfold qp j5 tD;rw[dp]
theorem AW {ps:List Kv} {k:Nat} (h:k<ps.length):qp ps (k+1)=qp ps k++jH ps[k].1++jH ps[k].2:=by
 unfold qp;rw[cO h,c4,dh];simp only[cW,dE,cG,dr,dx,tD,List.cons_append,dL]
theorem y3 {ps:List Kv} (h: ∀p∈ps,k6 p) (g:ps.length<=3) (k:Nat):(qp ps k).length<=392:=by
 unfold qp;have:=y0 (f:=tD) (m:=130) (l:=ps.take k) fun x b=>Jp (h x (dH b));rw[j1,j1];have c:(ps.take k).length<=3:=by rw[cK];omega
 have:(ps.take k).length * 130<=390:=oM
 omega
theorem DN (gM:Nat) (t:AT) (w:cu) (h:h9 gM w t) (ak:t.gC=[]) (W:t.ps.length<=3) (ab: ∀p∈t.ps,k6 p):
  cI cr 119 #[t.ptr] w fun e w'=>e= gE (ht (bs (jg (j5 t.ps))))/\cC w.heap.size w w':=by
 obtain⟨aO,aX,aU,b,aT,aW⟩:=t;simp only[AT.gC,AT.ps] at ak W ab;subst ak;have G:=h.hx;have O:=h.hp;simp only[AT.b,AT.pv,AT.kv,AT.ps,AT.gC,AT.page,List.isEmpty_nil] at G O;simp only[AT.ptr,AT.b,AT.ps];obtain⟨po,pc,rfl,aH,aS⟩:=O.at;obtain⟨n,J⟩:=nM b.length;obtain⟨R,aa⟩: ∃c:UInt8,cF n=c:=⟨_,rfl⟩;have aI:n % 256=R.toNat:=by rw[<-aa,nI]
 rw[J] at G aH W;have am:qp b 0=[76,R]:=by unfold qp;rw[J,aa];rfl
 have T:=gF J;have aw:=gF am;have ax:Hid ((R.toNat:Int)=(n:Int)):=gF oM;obtain⟨ag,aM⟩:=G.c2;unfold gX at ag G;clear am J aa aI;go_enter func119,ntmps119;go_wp2;clear ag aM
 go_loopw [3,27] (fun v i wr=> ∃k:Nat,k<=n/\i= .int .i64 k/\wr.ownsRow w.heap.size 5 1 v (qp b k).length (lH (qp b k))/\cC w.heap.size w wr) (fun _ i _=>n - (intOf i).toNat)
 case atStart=>refine⟨0,oM,rfl,?_,Below.one _ _⟩;rw[aw.o,show lH [76,R]=[.int .u8 76, .int .u8 (n:Int)] by simp[lH,ax.o]];exact⟨oC, .inr ⟨w.heap.size,2,#[.int .u8 76, .int .u8 (n:Int)],rfl,cz _,heap_alloc_new w _,oC,by simp[ds],oC,oC⟩⟩
 case round=>
  obtain⟨k,aQ,rfl,A,q⟩:=hrel;have av:=q.size;have aJ:=G.gD q;have Z:=y3 ab (by rw[T.o];exact W)
  by_cases aE:k<n
  .
   have I:k<b.length:=by rw[T.o];exact aE
   obtain⟨D,c,e,ae,af,-,aC⟩:=vO O I;obtain⟨rfl,-,-⟩:po=ct ⟨D,0,cv⟩/\b.length=b.length/\pc=c:=by simpa using e
   have aj:=(O.lt D aC).2;have U:wr.cell? ⟨D,k * 2,cv⟩=ct (ht b[k].1):=by rw[q.cell aj];exact ae
   have V:wr.cell? ⟨D,k * 2+1,cv⟩=ct (ht b[k].2):=by rw[q.cell aj];exact af
   have X:=ab _ (cB I);have Y:=Z k;have E:=Z (k+1);rw[AW I] at E;have H:=gF (AW I);obtain⟨⟨f,m⟩,al⟩: ∃p:Kv,b[k]=p:=⟨_,rfl⟩;rw[al] at U V X E H;obtain⟨L,ah⟩:=nM (qp b k);rw[ah] at A Y E H;simp only at U V E H;clear e ae af al ah;have aP:D<wr.heap.size:=oM
   have xb:=Bx.new wr #[ht f, ht m] 77;have sx:=q.alloc av (.cells #[ht f, ht m] 77);have M:=A.alloc (.cells #[ht f, ht m] 77);have r:w.heap.size<=(wr.alloc (.cells #[ht f, ht m] 77)).heap.size:=oN
   go_upto_region 6 with fail
   obtain⟨S,az⟩:=nM wr.heap.size;obtain⟨B,ai⟩:=nM (wr.alloc (.cells #[ht f, ht m] 77));simp only[ai,az] at *;clear ai U V q A aJ;refine qm #[cD,cD,cD,cD,cD,cD,cD,cD] 8 oP oO rfl ?_;replace xb:Bx B.drew S #[ht f, ht m] 77:=Bx.drew xb;replace sx:cC w.heap.size w B.drew:=Below.drew sx;replace M:B.drew.ownsRow w.heap.size 5 1 u3 L.length (lH L):=M;replace r:w.heap.size<=B.drew.heap.size:=r;generalize B.drew=W2 at *;have aK:f.size<=1000000:=by have:=X.1;simp at this;omega
   have aL:m.size<=1000000:=by have:=X.2;simp at this;omega
   have aD:(L++jH f).length<=1000000:=by rw[iI] at E;omega
   have u:=gF (AU w.heap.size u3 L f W2 M r aK oM);clear M;refine cQ (i:=0) (v:=u3) rfl oP oP oP (fun _ _ _ h=>h) (dj ⟨oO,fun w=>by first|rfl| (go_simp;try with_reducible rfl)⟩) ?_;simp only[List.getElem_toArray,c0,cL,gU];refine cQ (i:=1) (v:=(hE (ct ⟨S,0,cv⟩))) rfl oP oP oP (fun _ _ _ h=>h) (dj ⟨oO,fun w=>by first|rfl| (go_simp;try with_reducible rfl)⟩) ?_;simp only[ki,cL,gU];refine cQ (i:=4) (v:=(hE (ct ⟨S,1,cv⟩))) rfl oP oP oP (fun _ _ _ h=>h) (dj ⟨oO,fun w=>by first|rfl| (go_simp;try with_reducible rfl)⟩) ?_;simp only[ki,cL,gU];refine wpAny_ready (rs:=[2,5]) oP oC ?_;refine c9 rfl (fun K hK=>?_) (c9 rfl (fun K hK=>?_) AllReady.nil);focus
    have g:=xb.cell;go_simp;refine hK _ _ ?_;clear hK K g;simp only[gU];refine wpAny_ready (rs:=[3,5]) oP oC ?_;refine c9 rfl (fun K hK=>?_) (c9 rfl (fun K hK=>?_) AllReady.nil);focus go_simp;refine u.o.mono ?_;rintro e z ⟨ac,rfl,N,j,l⟩;refine hK _ _ ?_;clear hK K u;simp only[gU];replace xb:=l _ _ _ oF xb;replace sx:=sx.trans j;replace r:w.heap.size<=z.heap.size:=sx.size;clear j l;refine iG 5 fun K hK=>?_;have g:=xb.cell;go_simp;refine hK _ _ ?_;clear hK K g;simp only[gU]
    rotate_left;focus have g:=xb.cell;go_simp;refine hK _ _ ?_;clear hK K g;simp only[gU];refine iG 3 fun K hK=>?_;go_simp;refine u.o.mono ?_;rintro e z ⟨ac,rfl,N,j,l⟩;refine hK _ _ ?_;clear hK K u;simp only[gU];replace xb:=l _ _ _ oF xb;replace sx:=sx.trans j;replace r:w.heap.size<=z.heap.size:=sx.size;clear j l
   rotate_left 2;focus have g:=xb.cell;go_simp;refine hK _ _ ?_;clear hK K g;simp only[gU];refine iG 2 fun K hK=>?_;have g:=xb.cell;go_simp;refine hK _ _ ?_;clear hK K g;simp only[gU];refine iG 3 fun K hK=>?_;go_simp;refine u.o.mono ?_;rintro e z ⟨ac,rfl,N,j,l⟩;refine hK _ _ ?_;clear hK K u;simp only[gU];replace xb:=l _ _ _ oF xb;replace sx:=sx.trans j;replace r:w.heap.size<=z.heap.size:=sx.size;clear j l
   all_goals
    have ad:=gF (AU w.heap.size ac (L++jH f) m z N r aL aD);clear N;refine iG 6 fun K hK=>?_;go_simp;refine ad.o.mono ?_;rintro e aN ⟨aY,rfl,aG,aB,aR⟩;refine hK _ _ ?_;clear hK K ad;simp only[gU];refine iG 7 fun K hK=>?_;go_simp;refine hK _ _ ?_;clear hK K;simp only[gU];refine kS ?_;go_wp2;go_roundw;case rel=>exact⟨k+1,oM,oQ,by rw[H.o];exact aG,sx.trans aB⟩
    case measure=>simp[intOf];omega
  obtain rfl:k=n:=oM
  have Y:=Z k;rw[show qp b k=j5 b by rw[<-AV,T.o]] at A Y;obtain⟨o,c,rfl,au,ar,aF⟩:=nC A;have ap:o≠none:=by rintro rfl;have:=(au.nil rfl).1;simp[j5] at this
  obtain⟨ay,rfl⟩:=dv.1 ap;obtain⟨aV,ao⟩:=nM ((j5 b).length);have aq:=DB (j5 b) ay c wr oM ar;rw[ao] at aq |-;clear ap au ar aF A ao;go_wp2_with fail;refine aq.mono ?_;rintro e aZ ⟨rfl,aA⟩;go_wp2;go_ret;exact⟨rfl,Below.then q aA av⟩
section
variable {F:Fence} {nF:Nat} {P:dy} {ops:Array Oper} {md:Region.Mode} {W0:cu} {an:kg} {Q:Exit->Act->cu->Prop}
end
section
variable {P:dy} {o:Oper} {a:Act} {C:cu->Prop} {K:Act->Prop}
theorem pC {b:cu} {v:cE} (c:(execOp a.eval o).run P b= .ok (.value v) b):ix P o a b (pR (iw v) b):=by
 unfold ix;rw[c];exact⟨Below.refl _ _,fun _=>undef,rfl,fun _ _=>trivial⟩
end
section
variable {P:dy} {ops:Array Oper} {rest:List Oper} {o:Oper} {a:Act} {Q:Exit->Act->cu->Prop} {w:cu}
end
section
variable {P:dy} {ops:Array Oper} {rest:List Oper} {o:Oper} {a:Act} {Q:Exit->Act->cu->Prop} {w:cu}
end
def AX (x y:cE) (e:de):mS:=⟨fun r=> ha (ct ⟨r.lo,0,cv⟩) 2 2,fun r W=>Bx W r.lo #[x,y] e⟩
def qI (n:Nd):Prop:=n.first=cy/\n.ie.size<=48/\0<=n.page/\n.page<=1000000
def pT (gC:List Nd) (k:Nat):List UInt8:=78::cF gC.length::((gC.take k).map fun c=>lQ c.page).flatten
def p5 (gC:List Nd) (k:Nat):List UInt8:=pT gC gC.length++((gC.tail.take k).map fun c=>jH c.ie).flatten
theorem DO {gC:List Nd} {k:Nat} (h:k<gC.length):pT gC (k+1)=pT gC k++lQ gC[k].page:=by
 unfold pT;rw[cO h,c4,dh];simp only[cW,dE,cG,dr,dx,List.cons_append]
theorem DR {gC:List Nd} {k:Nat} (h:k<gC.tail.length):p5 gC (k+1)=p5 gC k++jH gC.tail[k].ie:=by
 unfold p5;rw[cO h,c4,dh];simp only[cW,dE,cG,dr,dx,dL]
theorem DT (gC:List Nd):p5 gC 0=pT gC gC.length:=by unfold p5;simp
theorem AY (gC:List Nd):p5 gC gC.tail.length=kd gC:=by
 unfold p5 pT kd;rw[dp,dp];simp
theorem Jq (p:Int):(lQ p).length=2:=rfl
theorem AZ {gC:List Nd} (g:gC.length<=8) (k:Nat):(pT gC k).length<=18:=by
 unfold pT;have:=y0 (f:=fun b:Nd=>lQ b.page) (m:=2) (l:=gC.take k) fun x _=>Nat.le_of_eq (Jq _);rw[j1,j1];have c:(gC.take k).length<=8:=by rw[cK];omega
 omega
theorem A0 {gC:List Nd} (b: ∀c∈gC,qI c) (g:gC.length<=8) (k:Nat):(p5 gC k).length<=361:=by
 unfold p5;have j:=AZ g gC.length;have:=y0 (f:=fun c:Nd=>jH c.ie) (m:=49) (l:=gC.tail.take k) fun x h=>by have:=(b x (List.mem_of_mem_tail (dH h))).2.1;rw[vL];omega
 have p:(gC.tail.take k).length<=7:=by rw[cK,cT];omega
 rw[iI];omega
theorem DU (gM:Nat) (t:AT) (w:cu) (h:h9 gM w t) (aH:2<=t.gC.length) (T:t.gC.length<=8) (ap: ∀c∈t.gC,qI c.nd):
  cI cr 119 #[t.ptr] w fun e w'=>e= gE (ht (bs (jg (kd (t.gC.map AT.nd)))))/\cC w.heap.size w w':=by
 obtain⟨bJ,bU,bR,bT,gC,bS⟩:=t;simp only[AT.gC] at aH T ap;have B:=h.hx;have A:=h.hk;have z:=h.hc;simp only[AT.b,AT.pv,AT.kv,AT.gC,AT.page] at B A z;simp only[AT.ptr,AT.b,AT.gC];obtain⟨u,c,rfl,-,q,bp⟩:=qH (i:=0) A oM;have aN:=(A.lt u bp).2;have a0: ∀i (I:i<gC.length),w.cell? ⟨u,i,cv⟩=ct (hE (ct ⟨gC[i].b,0,cv⟩)):=fun i I=>by
  obtain⟨bj,c',e,bo,-,-⟩:=qH A I;obtain⟨rfl,rfl⟩:u=bj/\c=c':=by simpa using e
  exact bo
 have aL:gC.isEmpty=false:=by cases gC<;>simp_all
 rw[aL] at B;obtain⟨b,V⟩:=nM (gC.map AT.nd);have W:b.length=gC.length:=by rw[<-V,List.length_map]
 have af: ∀c∈b,qI c:=by intro c z;rw[<-V] at z;obtain⟨t,bA,rfl⟩:=cP.1 z;exact ap t bA
 obtain⟨n,Z⟩:=nM gC.length;obtain⟨aa,ao⟩: ∃c:UInt8,cF n=c:=⟨_,rfl⟩;have bB:n % 256=aa.toNat:=by rw[<-ao,nI]
 have aP:pT b 0=[78,aa]:=by unfold pT;rw[W,Z,ao];rfl
 rw[Z] at B aH T q W;have aB:=gF Z;have ac:=gF V;have r:=gF W;have bc:=gF aP;have be:Hid ((aa.toNat:Int)=(n:Int)):=gF oM;obtain⟨S,aw⟩:=B.c2;unfold gX at S B;have aE:=gF a0;rw[ac.o];clear aP Z ao bB V W aL a0 ap h A;go_enter func119,ntmps119;go_wp2;clear S aw
 go_loopw [6,53] (fun v i wr=> ∃k:Nat,k<=n/\i= .int .i64 k/\wr.ownsRow w.heap.size 5 1 v (pT b k).length (lH (pT b k))/\cC w.heap.size w wr) (fun _ i _=>n - (intOf i).toNat)
 case atStart=>refine⟨0,oM,rfl,?_,Below.one _ _⟩;rw[bc.o,show lH [78,aa]=[.int .u8 78, .int .u8 (n:Int)] by simp[lH,be.o]];exact⟨oC, .inr ⟨w.heap.size,2,#[.int .u8 78, .int .u8 (n:Int)],rfl,cz _,heap_alloc_new w _,oC,by simp[ds],oC,oC⟩⟩
 case round=>
  obtain⟨k,A,rfl,g,f⟩:=hrel;have bC:=f.size;have av:=B.gD f;have aQ:=AZ (gC:=b) (by rw[r.o];exact T)
  by_cases aR:k<n
  .
   have M:k<gC.length:=by rw[aB.o];exact aR
   have Y:k<b.length:=by rw[r.o];exact aR
   have G:wr.cell? ⟨u,k,cv⟩=ct (hE (ct ⟨gC[k].b,0,cv⟩)):=by rw[f.cell aN];exact aE.o k M
   have aj:=(z _ (cB M)).hx;have bn:gC[k].b<w.heap.size:=aj.lt;have aY:gC[k].page=b[k].page:=by
    have:b[k]=gC[k].nd:=by simp only[<-ac.o,dq]
    rw[this,AT.ql]
   have bw:=(af _ (cB Y)).2.2.1;have J:=aQ k;have p:=gF (DO Y);have ab:Bx wr gC[k].b (gX gC[k].gC.isEmpty gC[k].pv gC[k].kv gC[k].page) 129:=aj.gD f;rw[aY] at ab;have ak:wr.cell? ⟨gC[k].b,3,cv⟩=ct (.int .i64 b[k].page):=by rw[ab.cell];rfl
   obtain⟨aG,H⟩:=nM (gC[k].b);obtain⟨N,aZ⟩:=nM (b[k].page);have ba:=ab.lt;rw[aZ] at ak bw p;rw[H] at G ak ba;obtain⟨L,aI⟩:=nM (pT b k);rw[aI] at g J p;clear aI aZ H aY aj bn ab;have bq:u<wr.heap.size:=oM
   go_upto_region 13 with fail
   have bi:=jv.cells wr;obtain⟨D,ah⟩: ∃c:UInt8,cF (N / 256).toNat=c:=⟨_,rfl⟩;obtain⟨E,ai⟩: ∃c:UInt8,cF N.toNat=c:=⟨_,rfl⟩;have bK:N / 256 % 256=(D.toNat:Int):=by rw[<-ah,nI];omega
   have bL:N % 256=(E.toNat:Int):=by rw[<-ai,nI];omega
   have aX:lQ N=[D,E]:=by unfold lQ;rw[ah,ai]
   rw[aX] at p;have l:=gF f;have aC:=gF g;clear ah ai aX f g av;refine pS 13 2 #[cy,cy,cy,cy,cy,cy,cy,cy,cy,cy,cy,cy,cy,cD,cD] (fun i=>if i=2\/i=8 then ct (iw (hE (ct ⟨aG,0,cv⟩))) else if i=12 then ct (AX (.int .u8 (D.toNat:Int)) (.int .u8 (E.toNat:Int)) 5) else cv) oP oO oO oP ?_;simp only[df,dz];refine LW.b 2 2 ?_;simp only[jC];repeat (go_big_quiet_step (fail))
   refine cR ?_;refine LW.z ?_ ?_;intro ay _;exact pC oO;intro _;simp only[cL,gU]
   (try simp only[iw])
   refine LW.b 5 8 ?_;simp only[jC];repeat (go_big_quiet_step (fail))
   refine cR ?_;refine LW.z ?_ ?_;intro ay _;exact pC oO;intro _;simp only[cL,gU]
   (try simp only[iw])
   refine LW.b 3 12 ?_;simp only[jC];repeat (go_big_quiet_step (fail))
   refine cR ?_;refine LW.z ?_ ?_;. intro ay _;unfold ix;go_simp;exact⟨Below.one _ _,fun _=>undef,rfl,fun bW bl=>(Bx.new ay.w _ _).gD bl⟩
   intro ax;simp only[cL,gU];refine LW.done ?_;intro bf U;have au:Bx bf ax.lo #[.int .u8 (D.toNat:Int), .int .u8 (E.toNat:Int)] 5:=U.get 12 rfl rfl;have bz:=U.range 12 ax rfl;have ag:=U.below;obtain⟨bE,am⟩:=nM ax.lo;have ad:=Below.then l.o ag bC;have aq:=nD aC.o ag;have a9:=ad.size;obtain⟨bD,I,a6,a7,a8⟩:=info_parts Ax;have O:=gF (gK I (gK a6 (gK a7 a8)));rw[am] at au;simp only[AX,am];clear U bi bz am l aC ag I a6 a7 a8 G ak ba;refine iG 13 fun K hK=>?_;refine Ao (.tmp 57) (.tmp 69) 139 rfl w.heap.size 5 bD _ 1 1 cH O.o.1 O.o.2.1 O.o.2.2.1 O.o.2.2.2 rfl oF u6 L.length (lH L) rfl aq (ct ⟨bE,0,cv⟩) 2 2 (lH [D,E]) rfl (fun h=>by cases h) rfl (gO.bx au) (CM _) (by unfold ds;omega) oM a9 ?_;intro bG w5 aU aM;refine hK _ _ ?_;clear hK K;have bk:cC w.heap.size w w5:=Below.jq ad aq aM a9;have bu:w5.ownsRow w.heap.size 5 1 bG (pT b (k+1)).length (lH (pT b (k+1))):=by rw[p.o,iI,lH,c4];exact aU
   clear aU aM ad aq au;refine iG 14 fun K hK=>?_;go_simp;refine hK _ _ ?_;clear hK K;refine kS ?_;go_wp2;go_roundw;case rel=>exact⟨k+1,oM,oQ,bu,bk⟩
   case measure=>simp[intOf];omega
  obtain⟨bI,rfl⟩:=nP wr;obtain rfl:k=n:=oM
  have J:=A0 af (by rw[r.o];exact T);have aV:bI.ownsRow w.heap.size 5 1 u6 (p5 b 0).length (lH (p5 b 0)):=by rw[DT,r.o];exact g
  have bM: ¬c=1:=oM
  have bN: ¬(c:Int)=1:=oM
  have aD:=gF aV;have l:=gF f;obtain⟨S,aw⟩:=av.c2;obtain⟨m,aS⟩: ∃m,k=m+1:=⟨k - 1,oM⟩;have bQ:(k:Int) - 1=(m:Int):=oM
  have R:=gF aS;clear g aV f aQ aS;go_upto_region 16 with fail
  clear S aw av
  go_loopw [6,78] (fun v i bb=> ∃j:Nat,j<=m/\i= .int .i64 j/\bb.ownsRow w.heap.size 5 1 v (p5 b j).length (lH (p5 b j))/\cC w.heap.size w bb) (fun _ i _=>m - (intOf i).toNat)
  case atStart=>exact⟨0,oM,rfl,aD.o,l.o⟩
  case round=>
   clear aD l;obtain⟨j,bO,rfl,g,f⟩:=hrel;have a':=f.size
   by_cases bP:j<m
   .
    have M:j+1<gC.length:=by have:=R.o;rw[aB.o];omega
    have Y:j+1<b.length:=by have:=R.o;rw[r.o];omega
    have bt:j<b.tail.length:=by have:=R.o;rw[cT,r.o];omega
    have G:wr.cell? ⟨u,1+j,cv⟩=ct (hE (ct ⟨gC[j+1].b,0,cv⟩)):=by rw[f.cell aN,Nat.add_comm];exact aE.o (j+1) M
    have ae:b[j+1]=gC[j+1].nd:=by simp only[<-ac.o,dq]
    have aJ:b.tail[j]=b[j+1]:=oC
    have al:=af _ (cB Y);have q:=DM gM gC[j+1] wr ((z _ (cB M)).stays f (cz _)) (by rw[<-ae];exact al.1);have p:=gF (DR bt);have X:=J j;rw[aJ] at p;rw[<-ae] at q;obtain⟨bF,a3⟩:=nM (b[j+1].ie);have br:=al.2.1;rw[a3] at br q p;have a4:=AU w.heap.size u6 (p5 b j) bF wr g a' oM oM;unfold AT.ptr at q;obtain⟨aG,H⟩:=nM (gC[j+1].b);rw[H] at G q;have l:=gF f;have aA:=gF q;have aF:=gF a4;clear q a4 g f ae aJ al a3 H X;have bq:u<wr.heap.size:=oM
    go_wp2_with fail;refine aA.o.mono ?_;rintro e bH ⟨rfl,rfl⟩;go_wp2_with fail;refine aF.o.mono ?_;rintro e bX ⟨bV,rfl,aW,aK,-⟩;have az:=gF (gK aW (l.o.trans aK));clear aW aK l aA aF G;go_wp2;go_roundw;case rel=>exact⟨j+1,oM,oQ,by rw[p.o];exact az.o.1,az.o.2⟩
    case measure=>simp[intOf];omega
   obtain rfl:j=m:=oM
   have X:=J j;have aO:b.tail.length=j:=by have:=R.o;rw[cT,r.o];omega
   rw[show p5 b j=kd b by rw[<-AY,aO]] at g X;obtain⟨o,bh,rfl,a2,a1,bv⟩:=nC g;have aT:o≠none:=by rintro rfl;have:=(a2.nil rfl).1;simp[kd] at this
   obtain⟨bg,rfl⟩:=dv.1 aT;obtain⟨bY,a5⟩:=nM ((kd b).length);have ar:=DB (kd b) bg bh wr oM a1;rw[a5] at ar |-;have bd:=gF ar;clear aT a2 a1 bv g a5 ar J X aO;go_wp2_with fail;refine bd.o.mono ?_;rintro e bH ⟨rfl,bm⟩;go_wp2;go_ret;exact⟨rfl,Below.then f bm a'⟩
theorem DV (gM:Nat) (t:AT) (w:cu) (h:h9 gM w t) (l:lC t.nd):
  cI cr 119 #[t.ptr] w fun e w'=>e= gE (ht (bs (iy t.nd)))/\cC w.heap.size w w':=by
 unfold iy oY;rw[AT.gT,AT.jb];rcases l with⟨b,c,f⟩|⟨b,c,f⟩;rw[AT.gT] at b;rw[AT.jb] at c f;rw[if_pos b];exact DN gM t w h (by simpa using b) c f;rw[AT.gT,List.length_map] at b c;rw[if_neg (by intro e;rw[List.map_eq_nil_iff] at e;rw[e] at b;simp at b)];refine DU gM t w h b c fun g j=>f _ ?_;rw[AT.gT];exact cP.2 ⟨g,j,rfl⟩
def il (po:Option Addr) (pc:Nat) (ko:Option Addr) (kc:Nat) (n:Nd):List cE:=[ha po n.ps.length pc, ha ko n.gC.length kc, .int .i64 n.page]
inductive mU (w:cu):List cE->Nd->Prop
 | mk (ps:List Kv) (gC:List Nd) (page:Int) (po:Option Addr) (pc:Nat) (ko:Option Addr) (kc:Nat) (KC:List (List cE))
  (h1:jk po ps.length pc) (h2:gO (· <w.heap.size) w po (gV ps)) (h3:jk ko gC.length kc) (h4:KC.length=gC.length) (h5:gO (· <w.heap.size) w ko KC.flatten)
  (h6: ∀(i:Nat) (h:i<gC.length) (h':i<KC.length),mU w KC[i] gC[i]):mU w [ha po ps.length pc, ha ko gC.length kc, .int .i64 page] (.mk ps gC page)
theorem mU.cells {w:cu} {b:List cE} {n:Nd} (h:mU w b n): ∃po pc ko kc,b=il po pc ko kc n:=by
 cases h with|mk ps gC page po pc ko kc KC h1 h2 h3 h4 h5 h6=>exact⟨po,pc,ko,kc,rfl⟩
theorem mU.len {w:cu} {b:List cE} {n:Nd} (h:mU w b n):b.length=3:=by
 obtain⟨_,_,_,_,rfl⟩:=h.cells;rfl
theorem mU.stays {w w':cu} (b:cC w.heap.size w w'): ∀{n:Nd} {c:List cE},mU w c n->mU w' c n:=by
 intro n
 induction n using Nd.ind with
 | h p l m j=>
  intro c h;cases h with|mk p l m po pc ko kc KC h1 h2 h3 h4 h5 h6=>
   exact .mk _ _ _ _ _ _ _ KC h1 ((h2.below b).mono fun _ h=>iU h b.size) h3 h4 ((h5.below b).mono fun _ h=>iU h b.size)
    fun i f g=>j _ (cB f) (h6 i f g)
theorem mU.kid {w:cu} {po ko:Option Addr} {pc kc:Nat} {n:Nd} (h:mU w (il po pc ko kc n) n) {i:Nat} (A:i<n.gC.length):
  ∃g b m c1 l f,ko=ct ⟨g,b,cv⟩/\g<w.heap.size/\n.gC.length<=kc/\w.cell? ⟨g,b+i * 3,cv⟩=ct (ha m n.gC[i].ps.length c1)/\w.cell? ⟨g,b+i * 3+1,cv⟩=ct (ha l n.gC[i].gC.length f)/\
   w.cell? ⟨g,b+i * 3+2,cv⟩=ct (.int .i64 n.gC[i].page)/\mU w (il m c1 l f n.gC[i]) n.gC[i]:=by
 generalize z:il po pc ko kc n=cs at h;cases h with|mk ps gC page Py Pz PA nV KC h1 h2 h3 h4 h5 h6=>
  obtain⟨-,-,rfl,rfl⟩:po=Py/\pc=Pz/\ko=PA/\kc=nV:=by simp only[il,Nd.ps,Nd.gC,Nd.page,List.cons.injEq,Value.slice.injEq,and_true,true_and] at z;obtain⟨⟨a,D⟩,E,d⟩:=z;exact⟨a,D,E,d⟩
  simp only[Nd.gC] at A |-;have u:i<KC.length:=oM
  have p:=h6 i A u;obtain⟨m,c1,l,f,e⟩:=p.cells;have r: ∀x∈KC,x.length=3:=by intro x q;obtain⟨S,M,rfl⟩:=List.getElem_of_mem q;exact(h6 S oM M).len
  have T:KC.flatten.length=gC.length * 3:=by rw[List.length_flatten, <-h4];have:KC.map List.length=List.replicate KC.length 3:=List.eq_replicate_iff.2 ⟨oC,fun x q=>by obtain⟨y,R,rfl⟩:=cP.1 q;exact r y R⟩;rw[this];simp
  obtain⟨g,b,rfl,-,J⟩:=h5 (i * 3) oM;have j: ∀c,c<3->w.cell? ⟨g,b+(i * 3+c),cv⟩=KC[i][c]?:=by
   intro c O;have B:i * 3+c<KC.flatten.length:=oM
   obtain⟨H,j8,G,I,-⟩:=h5 (i * 3+c) B;obtain⟨rfl,rfl⟩:g=H/\b=j8:=by simpa using G
   rw[I, <-cA B,kL r i c O,cA u];rfl
  have N:gC.length<=kc:=by rcases h3 with⟨h,_⟩|⟨_,_,h,_⟩;cases h;exact h
  rw[e] at j p;exact⟨g,b,m,c1,l,f,rfl,J,N,j 0 oM,j 1 oM,j 2 oM,p⟩
theorem mU.pair {w:cu} {po ko:Option Addr} {pc kc:Nat} {n:Nd} (h:mU w (il po pc ko kc n) n) {i:Nat} (l:i<n.ps.length):
  ∃g b,po=ct ⟨g,b,cv⟩/\g<w.heap.size/\n.ps.length<=pc/\w.cell? ⟨g,b+i * 2,cv⟩=ct (ht n.ps[i].1)/\w.cell? ⟨g,b+i * 2+1,cv⟩=ct (ht n.ps[i].2):=by
 generalize j:il po pc ko kc n=cs at h;cases h with|mk ps gC page Py Pz PA nV KC h1 h2 h3 h4 h5 h6=>
  obtain⟨rfl,rfl,-,-⟩:po=Py/\pc=Pz/\ko=PA/\kc=nV:=by simp only[il,Nd.ps,Nd.gC,Nd.page,List.cons.injEq,Value.slice.injEq,and_true,true_and] at j;obtain⟨⟨a,m⟩,p,d⟩:=j;exact⟨a,m,p,d⟩
  simp only[Nd.ps] at l |-;obtain⟨c,f⟩:=yZ l;have D:=uJ ps;obtain⟨g,b,rfl,q,A⟩:=h2 (i * 2) oM;obtain⟨z,j8,u,r,-⟩:=h2 (i * 2+1) oM;obtain⟨rfl,rfl⟩:g=z/\b=j8:=by simpa using u
  rw[cA oM] at c f;have B:ps.length<=pc:=by rcases h1 with⟨h,_⟩|⟨_,_,h,_⟩;cases h;exact h
  exact⟨g,b,rfl,A,B,by rw[q,c],by rw[show b+i * 2+1=b+(i * 2+1) by omega,r,f]⟩
mutual
def Nd.ll:Nd->Nat
 | .mk _ [] _=>0
 | .mk _ (k::_) _=>k.ll+1
end
theorem A1 (s:ByteArray) (w:cu) (h:s.size<=1000000):
  cI cr 134 #[ht s] w fun e w'=>e= gE (ht (bs (jH s)))/\cC w.heap.size w w':=by
 obtain⟨c,b⟩: ∃c:UInt8,cF s.size=c:=⟨_,rfl⟩;have j:((s.size:Int) % 256)=(c.toNat:Int):=by rw[<-b,nI];omega
 have g:ByteArray.size { data:=#[c] }=1:=rfl;have f:=gF b;clear b;go_enter func134,ntmps134;go_wp2_with (refine wL rfl _ 139 9 5 rfl cH cX cS (ct ⟨w.heap.size,0,cv⟩) 1 1 [c] rfl rfl (S:=(· =w.heap.size)) (gO.bx (Bx.new w _ _)) ?_);go_ret;refine⟨?_,Below.one _ _⟩;unfold jH;rw[f.o,show c::s.data.toList=[c]++s.data.toList from rfl, <-q8,pz];rfl
theorem DW (n:Nd) (po ko:Option Addr) (pc kc:Nat) (w:cu) (h:mU w (il po pc ko kc n) n) (V:n.first=cy):
  cI cr 135 #[.agg (il po pc ko kc n).toArray] w fun e w'=>e= gE (ht n.ie)/\cC w.heap.size w w':=by
 unfold il;go_enter func135,ntmps135;go_wp2
 go_loopg [] n.ll (fun k wr=> ∃(s:Nd) (U T:Option Addr) (H J:Nat),Hid (mU w (il U H T J s) s/\s.ie=n.ie/\s.first=cy/\s.ll=k)/\Bx wr w.heap.size (il U H T J s).toArray 95/\cC w.heap.size w wr)
 case atStart=>exact⟨n,po,ko,pc,kc,gF ⟨h,rfl,V,rfl⟩,Bx.new w _ _,Below.one _ _⟩
 case round=>
  clear h V;obtain⟨s,U,T,H,J,E,x,c⟩:=hrel;obtain⟨B,u,m,R⟩:=E.o;have al:=c.size;obtain⟨I,ao,ad⟩:=x.c3;obtain⟨r,af,ag⟩:=s;simp only[il,Nd.ps,Nd.gC,Nd.page] at I;cases af with
  | nil=>
   have X:0<r.length:=by
    rw[Nd.first] at m;cases r with
    | nil=>simp at m
    | cons=>simp
   obtain⟨f,A,rfl,z,D,G,-⟩:=B.pair (i:=0) X;rw[dm,Nat.add_zero] at G;have ah:wr.cell? ⟨f,A,cv⟩=ct (ht r[0].1):=by rw[c.cell z];exact G
   have Y:(Nd.mk r [] ag).ie=r[0].1:=by
    cases r with
    | nil=>simp at X
    | cons x am=>rw[Nd.ie];rfl
   rw[Y] at u;have g:=gF u;simp only[Nd.ps] at D;have ae:f<wr.heap.size:=oM
   simp only[c5] at I;clear B E u m R Y x G ad;go_wp2;go_ret;exact⟨by rw[<-g.o];rfl,c⟩
  | cons b Z=>
   obtain⟨f,A,q,j,p,l,rfl,z,D,M,N,O,S⟩:=B.kid (i:=0) (by simp[Nd.gC]);simp only[Nd.gC,c0,dm,Nat.add_zero] at M N O S D;have ai:wr.cell? ⟨f,A,cv⟩=ct (ha q b.ps.length j):=by rw[c.cell z];exact M
   have aj:wr.cell? ⟨f,A+1,cv⟩=ct (ha p b.gC.length l):=by rw[c.cell z];exact N
   have ak:wr.cell? ⟨f,A+2,cv⟩=ct (.int .i64 b.page):=by rw[c.cell z];exact O
   have g:Hid (mU w (il q j p l b) b/\b.ie=n.ie/\b.first=cy/\b.ll+1=gk):=gF ⟨S,by rw[<-u,Nd.ie],by rw[Nd.first] at m;exact m,by rw[<-R,Nd.ll]⟩;obtain⟨aa,W⟩: ∃aa,(b::Z).length=aa+1:=⟨Z.length,oC⟩;rw[W] at I D;have ae:f<wr.heap.size:=oM
   have ac:Hid (Bx (((wr.setCell ⟨w.heap.size,0,cv⟩ (ha q b.ps.length j)).setCell ⟨w.heap.size,1,cv⟩ (ha p b.gC.length l)).setCell ⟨w.heap.size,2,cv⟩ (.int .i64 b.page)) w.heap.size (il q j p l b).toArray 95):=gF (by
    have:=((x.set 0 (ha q b.ps.length j)).set 1 (ha p b.gC.length l)).set 2 (.int .i64 b.page);simpa[il] using this)
   have ab:=gF c;clear B E u m R x M N O S W c;go_wp2
   go_roundg b.ll
   case rel=>exact⟨b,q,p,j,l,gF ⟨g.o.1,g.o.2.1,g.o.2.2.1,rfl⟩,ac.o,iT (iT (iT ab.o (cz _)) (cz _)) (cz _)⟩
   case measure=>have:=g.o.2.2.2;omega
theorem Jr (n:Nd) (po ko:Option Addr) (pc kc:Nat) (w:cu) (h:mU w (il po pc ko kc n) n) (aj:n.gC=[]) (A:n.ps.length<=3) (M: ∀p∈n.ps,k6 p):
  cI cr 96 #[.agg (il po pc ko kc n).toArray] w fun e w'=>e= gE (ht (bs (jg (j5 n.ps))))/\cC w.heap.size w w':=by
 obtain⟨b,aE,N⟩:=n;simp only[Nd.gC,Nd.ps] at aj A M;subst aj;simp only[il,Nd.ps,Nd.gC,Nd.page];simp only[il,Nd.ps,Nd.gC,Nd.page] at h;obtain⟨m,J⟩:=nM b.length;obtain⟨r,Y⟩: ∃c:UInt8,cF m=c:=⟨_,rfl⟩;have az:m % 256=r.toNat:=by rw[<-Y,nI]
 have al:qp b 0=[76,r]:=by unfold qp;rw[J,Y];rfl
 have ac:Bx (w.alloc (.cells #[.slice po m pc, .slice ko 0 kc, .int .i64 N] 95)) w.heap.size #[.slice po m pc, .slice ko 0 kc, .int .i64 N] 95:=Bx.new w _ _;rw[J] at A |-;have j:=gF J;have ar:=gF al;have au:Hid ((r.toNat:Int)=(m:Int)):=gF oM;have aq:=gF h;clear J Y az al h;obtain⟨T,aa⟩:=ac.c2;simp only[c5];go_enter func96,ntmps96;go_wp2_with (refine wL rfl _ 139 9 5 rfl cH cX cS (ct ⟨w.heap.size+1,0,cv⟩) 2 2 [76,r] rfl rfl (S:=(· =w.heap.size+1)) (by rw[show lH [76,r]=[.int .u8 76, .int .u8 (m:Int)] by simp[lH,au.o]];exact gO.bx (Bx.ir _ _ _ _ oC)) ?_);clear T aa
 go_loopw [3,4] (fun v i wr=> ∃k:Nat,k<=m/\i= .int .i64 k/\v= ht (bs (qp b k))/\Bx wr w.heap.size #[ha po m pc, ha ko 0 kc, .int .i64 N] 95/\cC w.heap.size w wr) (fun _ i _=>m - (intOf i).toNat)
 case atStart=>refine⟨0,oM,rfl,by rw[ar.o],ac.alloc _,?_⟩;exact(Below.one w _).alloc oC _
 case round=>
  clear ac;obtain⟨k,aC,rfl,rfl,x,g⟩:=hrel;have am:=g.size;obtain⟨T,aa⟩:=x.c2
  by_cases ay:k<m
  .
   have X:k<b.length:=by rw[j.o];exact ay
   obtain⟨W,ao,rfl,ai,I,O,R⟩:=aq.o.pair (n:=Nd.mk b [] N) (i:=k) X;simp only[Nd.ps] at I O R;have U:wr.cell? ⟨W,ao+k * 2,cv⟩=ct (ht b[k].1):=by rw[g.cell ai];exact O
   have V:wr.cell? ⟨W,ao+k * 2+1,cv⟩=ct (ht b[k].2):=by rw[g.cell ai];exact R
   have H:=y3 M (by rw[j.o];exact A) k;have G:=M _ (cB X);have u:=gF (AW X);obtain⟨⟨Z,ab⟩,ak⟩: ∃p:Kv,b[k]=p:=⟨_,rfl⟩;rw[ak] at U V G u;simp only at U V u;have aw:=G.1;have ax:=G.2;simp only at aw ax;obtain⟨S,B⟩:=nM (bs (qp b k));obtain⟨l,D⟩:=nM (bs (jH Z));obtain⟨z,E⟩:=nM (bs (jH ab));have aI:S.size<=392:=by rw[<-B,lM];exact H
   have aJ:l.size<=49:=by rw[<-D,lM,vL];omega
   have aK:z.size<=81:=by rw[<-E,lM,vL];omega
   have aF: ¬9223372036854775807<S.size+l.size:=oM
   have aG: ¬9223372036854775807<S.size+l.size+z.size:=oM
   have af:Hid (∀f,cI cr 134 #[ht Z] f fun e w'=>e= gE (ht l)/\cC f.heap.size f w'):=gF fun f=>D▸A1 Z f oM;have ag:Hid (∀f,cI cr 134 #[ht ab] f fun e w'=>e= gE (ht z)/\cC f.heap.size f w'):=gF fun f=>E▸A1 ab f oM;have ap:Hid (S++l++z=bs (qp b (k+1))):=gF (by rw[u.o, <-B, <-D, <-E,q8,q8]);rw[B];have ad:=gF g;have aB:W<wr.heap.size:=oM
   have aD:m<=pc:=by rw[j.o] at I;exact I
   clear ak B D E G H u O R g I;go_upto_region 6 with fail
   have av:=jv.cells wr;refine p3 oP oP ?_;repeat (any_goals (first|go_big_quiet_skip| (go_big_quiet_want;go_big_quiet_op;first|go_big_quiet_on|go_big_quiet_call (((go_at_call 134;first| (with_reducible exact Calls.rH (af.o _))| (with_reducible exact Calls.rH (ag.o _))))))|quiet_step (((go_at_call 134;first| (with_reducible exact Calls.rH (af.o _))| (with_reducible exact Calls.rH (ag.o _)))))))
   refine cR ?_;rintro aA ⟨⟨_,q⟩,rfl⟩;have ae:=gF (gK (x.gD q) (Below.then ad.o q am));clear T aa av ad x q U V;go_wp2;go_roundw;case rel=>exact⟨k+1,oM,oQ,by rw[ap.o],ae.o.1,ae.o.2⟩
   case measure=>simp[intOf];omega
  obtain rfl:k=m:=oM
  have H:=y3 M (by rw[j.o];exact A) k;rw[show qp b k=j5 b by rw[<-AV,j.o]] at H |-;have ah:=yS (bs (j5 b)) wr (by rw[lM];omega);rw[q7] at ah;go_wp2_with fail;refine ah.mono ?_;rintro e aH ⟨rfl,q⟩;go_wp2;go_ret;exact⟨rfl,Below.then g q am⟩
theorem Js (n:Nd) (po ko:Option Addr) (pc kc:Nat) (w:cu) (h:mU w (il po pc ko kc n) n) (aY:2<=n.gC.length) (al:n.gC.length<=8) (ad: ∀c∈n.gC,qI c):
  cI cr 96 #[.agg (il po pc ko kc n).toArray] w fun e w'=>e= gE (ht (bs (jg (kd n.gC))))/\cC w.heap.size w w':=by
 obtain⟨m,V⟩:=nM n.gC.length;obtain⟨X,aw⟩: ∃c:UInt8,cF m=c:=⟨_,rfl⟩;have a6:m % 256=X.toNat:=by rw[<-aw,nI]
 have aL:pT n.gC 0=[78,X]:=by unfold pT;rw[V,aw];rfl
 have am:il po pc ko kc n=[ha po n.ps.length pc, ha ko m kc, .int .i64 n.page]:=by unfold il;rw[V]
 obtain⟨af,aP⟩:=nM n.ps.length;obtain⟨ae,aN⟩:=nM n.page;rw[aP,aN] at am;have q:=gF V;have aV:=gF aL;rw[V] at aY al;have aW:Hid ((X.toNat:Int)=(m:Int)):=gF oM;have aC:=gF h;have aB:Bx (w.alloc (.cells #[ha po af pc, ha ko m kc, .int .i64 ae] 95)) w.heap.size #[ha po af pc, ha ko m kc, .int .i64 ae] 95:=Bx.new w _ _;have bk:((m:Int)==0)=false:=oN
 rw[am];clear V aw a6 aL h am aP aN;obtain⟨H,J⟩:=aB.c2;go_enter func96,ntmps96;go_wp2_with (refine wL rfl _ 139 9 5 rfl cH cX cS (ct ⟨w.heap.size+1,0,cv⟩) 2 2 [78,X] rfl rfl (S:=(· =w.heap.size+1)) (by rw[show lH [78,X]=[.int .u8 78, .int .u8 (m:Int)] by simp[lH,aW.o]];exact gO.bx (Bx.ir _ _ _ _ oC)) ?_);clear H J
 go_loopw [5,6] (fun v i wr=> ∃k:Nat,k<=m/\i= .int .i64 k/\v= ht (bs (pT n.gC k))/\Bx wr w.heap.size #[ha po af pc, ha ko m kc, .int .i64 ae] 95/\cC w.heap.size w wr) (fun _ i _=>m - (intOf i).toNat)
 case atStart=>refine⟨0,oM,rfl,by rw[aV.o],aB.alloc _,?_⟩;exact(Below.one w _).alloc oC _
 case round=>
  clear aB;obtain⟨k,bj,rfl,rfl,x,g⟩:=hrel;have W:=g.size;obtain⟨H,J⟩:=x.c2;have ar:=AZ (gC:=n.gC) (by rw[q.o];exact al)
  by_cases av:k<m
  .
   have G:k<n.gC.length:=by rw[q.o];exact av
   obtain⟨D,Y,az,ai,ay,aj,rfl,T,E,-,-,O,-⟩:=aC.o.kid (i:=k) G;have R:wr.cell? ⟨D,Y+k * 3+2,cv⟩=ct (.int .i64 n.gC[k].page):=by rw[g.cell T];exact O
   have ax:=(ad _ (cB G)).2.2.1;have a4:=(ad _ (cB G)).2.2.2;have I:=ar k;have p:=gF (DO G);obtain⟨l,aO⟩:=nM (n.gC[k].page);rw[aO] at R ax a4 p;have bf:wrap64 (l / 256)=l / 256:=cM _ oM;obtain⟨S,r⟩:=nM (bs (pT n.gC k));have ba:S.size<=18:=by rw[<-r,lM];exact I
   obtain⟨A,ap⟩: ∃c:UInt8,cF (l / 256).toNat=c:=⟨_,rfl⟩;obtain⟨B,j⟩: ∃c:UInt8,cF l.toNat=c:=⟨_,rfl⟩;have ak:l / 256 % 256=(A.toNat:Int):=by rw[<-ap,nI];omega
   have bc:l % 256=(B.toNat:Int):=by rw[<-j,nI];omega
   have bd:l.tdiv 256=l / 256:=Int.tdiv_eq_ediv_of_nonneg ax;have be:l.tmod 256=l % 256:=Int.tmod_eq_emod_of_nonneg ax;have aM:lQ l=[A,B]:=by unfold lQ;rw[ap,j]
   rw[aM] at p;have bg:ByteArray.size { data:=#[A,B] }=2:=rfl;have a8: ¬9223372036854775807<S.size+2:=oM
   have ag:Hid (S++⟨#[A,B]⟩=bs (pT n.gC (k+1))):=gF (by rw[p.o, <-r, <-q8]);rw[r];have u:=gF g;have a0:D<wr.heap.size:=oM
   have a3:m<=kc:=by rw[q.o] at E;exact E
   clear aO r ap j aM I p O g E ar;go_upto_region 12 with fail
   have aX:=jv.cells wr;refine pS 21 0 #[cy,cy,cy,cy,cy,cy,cy,cy,cy,cy,cy,cy,cy,cy,cy,cy,cy,cy,cy,cy,cy] (fun i=>if i=17 then ct (AX (.int .u8 (A.toNat:Int)) (.int .u8 (B.toNat:Int)) 5) else if i=18 then ct (iw (ht (bs [A,B]))) else cv) oP oO oO oP ?_;simp only[df,dz];refine LW.b 17 17 ?_;simp only[jC];repeat (go_big_quiet_step (fail))
   refine cR ?_;refine LW.z ?_ ?_;. intro aU _;unfold ix;go_simp;exact⟨Below.one _ _,fun _=>undef,rfl,fun bm aZ=>(Bx.new aU.w _ _).gD aZ⟩
   intro a9;simp only[cL,gU];refine LW.z ?_ ?_;intro aU ab;have a7:=(ab 17 (by decide+kernel)).get oO oO;exact Du (.tmp 74) 139 9 5 rfl cH cX cS _ 2 2 [A,B] rfl rfl (S:=(· =a9.lo)) (gO.bx a7);intro bl;simp only[cL,gU]
   (try simp only[iw])
   refine LW.b 2 21 ?_;simp only[jC];repeat (go_big_quiet_step (fail))
   refine cR ?_;refine LW.done ?_;intro bb aH;have j:=aH.below;have M:=gF (gK (x.gD j) (Below.then u.o j W));refine kS ?_;clear H J aX u x j R aH;go_wp2;go_roundw;case rel=>exact⟨k+1,oM,oQ,by rw[<-ag.o],M.o.1,M.o.2⟩
   case measure=>simp[intOf];omega
  obtain⟨bo,rfl⟩:=nP wr;obtain rfl:k=m:=oM
  have I:=A0 ad (by rw[q.o];exact al);have aQ:bs (pT n.gC k)=bs (p5 n.gC 0):=by rw[DT,q.o]
  rw[aQ];have u:=gF g;have aD:=gF x;clear aQ ar;go_upto_region 14 with fail
  clear H J x g
  go_loopw [5,7] (fun v i aT=> ∃f:Nat,1<=f/\f<=k/\i= .int .i64 f/\v= ht (bs (p5 n.gC (f - 1)))/\Bx aT w.heap.size #[ha po af pc, ha ko k kc, .int .i64 ae] 95/\cC w.heap.size w aT) (fun _ i _=>k - (intOf i).toNat)
  case atStart=>exact⟨1,oM,oM,rfl,rfl,aD.o,u.o⟩
  case round=>
   clear aD u W;obtain⟨f,bi,bh,rfl,rfl,x,g⟩:=hrel;have W:=g.size;obtain⟨H,J⟩:=x.c2
   by_cases av:f<k
   .
    have G:f<n.gC.length:=by rw[q.o];exact av
    have a2:f - 1<n.gC.tail.length:=by rw[cT,q.o];omega
    obtain⟨D,Y,az,ai,ay,aj,rfl,T,E,aE,ak,O,ao⟩:=aC.o.kid (i:=f) G;have aF:wr.cell? ⟨D,Y+f * 3,cv⟩=ct (ha az n.gC[f].ps.length ai):=by rw[g.cell T];exact aE
    have aG:wr.cell? ⟨D,Y+f * 3+1,cv⟩=ct (ha ay n.gC[f].gC.length aj):=by rw[g.cell T];exact ak
    have R:wr.cell? ⟨D,Y+f * 3+2,cv⟩=ct (.int .i64 n.gC[f].page):=by rw[g.cell T];exact O
    have ac:=ad _ (cB G);have aI:n.gC.tail[f - 1]=n.gC[f]:=by rw[List.getElem_tail];congr 1;omega
    have p:=gF (DR a2);rw[aI] at p;obtain⟨aS,aK⟩:=nM (n.gC[f]);rw[aK] at aF aG R ac p ao;have au:=DW aS az ay ai aj wr (ao.stays g) ac.1;obtain⟨aA,aR⟩:=nM aS.ie;have a1:=ac.2.1;rw[aR] at a1 au p;have U:=I (f - 1);obtain⟨S,r⟩:=nM (bs (p5 n.gC (f - 1)));obtain⟨Z,aa⟩:=nM (bs (jH aA));have ba:S.size<=361:=by rw[<-r,lM];exact U
    have bp:Z.size<=49:=by rw[<-aa,lM,vL];omega
    have a8: ¬9223372036854775807<S.size+Z.size:=oM
    have ag:Hid (S++Z=bs (p5 n.gC (f - 1+1))):=gF (by rw[p.o, <-r, <-aa,q8]);have a5: ∀N,cI cr 134 #[ht aA] N fun e w'=>e= gE (ht Z)/\cC N.heap.size N w':=fun N=>aa▸A1 aA N oM;rw[r];have u:=gF g;have ah:=gF au;have a0:D<wr.heap.size:=oM
    have a3:k<=kc:=by rw[q.o] at E;exact E
    unfold il at ah;clear au aR r aa aK ao aI p E g aE ak O ac U;go_wp2_with fail;refine ah.o.mono ?_;rintro e a' ⟨rfl,j⟩;go_wp2_with fail;refine(a5 _).mono ?_;rintro e bn ⟨rfl,aq⟩;have M:=gF (gK ((x.gD j).gD aq) (Below.then u.o (iq j aq) W));clear u ah x aF aG R H J j aq;go_wp2;go_roundw;case rel=>exact⟨f+1,oM,oM,oQ,by rw[ag.o,show f - 1+1=f+1 - 1 by omega],M.o.1,M.o.2⟩
    case measure=>simp[intOf];omega
   obtain rfl:f=k:=oM
   have U:=I (f - 1);have aJ:n.gC.tail.length=f - 1:=by rw[cT,q.o]
   rw[show p5 n.gC (f - 1)=kd n.gC by rw[<-AY,aJ]] at U |-;have ab:=yS (bs (kd n.gC)) wr (by rw[lM];omega);rw[q7] at ab;clear I U aJ;go_wp2_with fail;refine ab.mono ?_;rintro e a' ⟨rfl,j⟩;go_wp2;go_ret;exact⟨rfl,Below.then g j W⟩
theorem y4 (n:Nd) (po ko:Option Addr) (pc kc:Nat) (w:cu) (h:mU w (il po pc ko kc n) n) (g:lC n):
  cI cr 96 #[.agg (il po pc ko kc n).toArray] w fun e w'=>e= gE (ht (bs (iy n)))/\cC w.heap.size w w':=by
 unfold iy oY;rcases g with⟨b,c,f⟩|⟨b,c,f⟩;rw[if_pos b];exact Jr n po ko pc kc w h b c f;rw[if_neg (by intro e;rw[e] at b;simp at b)];exact Js n po ko pc kc w h b c f
def vP:Option (List UInt8×List UInt8)->cE
 | none=> hF #[ht (bs []), ht (bs []), hA cD]
 | some (k,r)=> hF #[ht (bs k), ht (bs r), hA cy]
theorem vQ (L:List UInt8) (i:Nat) (_h:i<L.length) (b:i<(bs L).size):(bs L)[i]=L[i]:=by
 show(bs L).data[i]=L[i];simp
theorem A2 (L:List UInt8) (w:cu) (G:L.length<=1000000):
  cI cr 177 #[ht (bs L)] w fun e w'=>e= gE (vP (kH L))/\cC w.heap.size w w':=by
 cases L;rotate_left
 case' cons c r=>
  obtain⟨s,b⟩:=nM (bs (c::r));have N:s.size=r.length+1:=by rw[<-b,lM];rfl
  have m:(B:0<s.size)->s[0]=c:=by subst b;intro B;rw[vQ _ _ oC];rfl
  have l:=m oM;have M:(s.toList==[])=false:=by rw[beq_eq_false_iff_ne,c6, <-b,q7];simp
  have A:=c.toNat_lt;have H:=gF b;rw[b];simp only[j1] at G;cases h:decide (r.length<c.toNat);.
   have j:=of_decide_eq_false h;have u:s.extract 1 (1+c.toNat)=bs (r.take c.toNat):=by rw[<-b,vF];simp
   have z:s.extract (1+c.toNat) (r.length+1)=bs (r.drop c.toNat):=by rw[<-b,vF];congr 1;rw[List.take_of_length_le oC];rw[Nat.add_comm,List.drop_succ_cons]
   have g:vP (kH (c::r))= hF #[ht (bs (r.take c.toNat)), ht (bs (r.drop c.toNat)), hA cy]:=by simp only[kH];rw[if_neg oM];rfl
   rw[g];have p:=gF u;have q:=gF z;clear b m h u z g;obtain⟨n,f⟩:=nM c.toNat;have E:(s[0]' oM).toNat=n:=by rw[l];exact f
   rw[f] at j A p q |-;have O: ¬(s.size:Int)<1+(n:Int):=oM
   clear l f;go_enter func177,ntmps177;go_wp2_with fail;have J:=jv.cells w;refine p3 oP oP ?_;repeat (any_goals (first|go_big_quiet_skip| (go_big_quiet_want;go_big_quiet_op;first|go_big_quiet_on|go_big_quiet_call ((fail)))|quiet_step ((fail))))
   refine cR ?_;rintro I ⟨⟨_,D⟩,rfl⟩;go_wp2;refine cJ (v:= hF #[ht (s.extract 1 (1+n)), ht (s.extract (1+n) (r.length+1)), hA cy]) (by simp[dc,results177,go_sem]) rfl ?_;exact⟨by rw[p.o,q.o],D⟩
  focus
   have j:=of_decide_eq_true h;have g:vP (kH (c::r))= hF #[ht (bs []), ht (bs []), hA cD]:=by simp only[kH];rw[if_pos j];rfl
   rw[g];obtain⟨n,f⟩:=nM c.toNat;have E:(s[0]' oM).toNat=n:=by rw[l];exact f
   rw[f] at j A;clear b m h g l f
 all_goals go_enter func177,ntmps177;go_wp2;refine cJ (v:= hF #[ht (bs []), ht (bs []), hA cD]) (by simp[dc,results177,go_sem]) rfl ?_;exact⟨rfl,Below.refl _ _⟩
def lD (L:List UInt8) (i:Nat):cE:=
 match kH (L.drop i) with
 | none=> hF #[ht (bs []), .int .i64 (-1)]
 | some (k,_)=> hF #[ht (bs k), .int .i64 ((i+1+k.length:Nat):Int)]
theorem Jt (s:ByteArray) (w:cu) (x:Int) (b:x<0):
  cI cr 133 #[ht s, .int .i64 x] w fun e w'=>e= gE (hF #[ht (bs []), .int .i64 (-1)])/\w'=w:=by
 go_enter dD,dB;go_wp2;go_ret2;exact⟨rfl,rfl⟩
theorem Ju (L:List UInt8) (i:Nat) (w:cu) (H:L.length<=1000000) (E:i<=1000000):
  cI cr 133 #[ht (bs L), .int .i64 i] w fun e w'=>e= gE (lD L i)/\w'=w:=by
 obtain⟨s,f⟩:=nM (bs L);have I:s.size=L.length:=by rw[<-f,lM]
 rw[f]
 by_cases r:i<L.length
 focus
  obtain⟨c,j⟩:=nM (L[i]);have l:L.drop i=c::L.drop (i+1):=by rw[dA r,j]
  have m:(A:i<s.size)->s[i]=c:=by subst f;intro A;rw[vQ _ _ r];exact j
  obtain⟨n,g⟩:=nM c.toNat;have D:(s[i]' oM).toNat=n:=by rw[m oM];exact g
  have B:=c.toNat_lt;rw[g] at B;cases h:decide (L.length<i+1+n);.
   have z:=of_decide_eq_false h;have q: ¬(L.length:Int)<(i:Int)+1+(n:Int):=oM
   have p:s.extract (i+1) (i+1+n)=bs ((L.drop (i+1)).take n):=by rw[<-f,vF];congr 2;omega
   have b:lD L i= hF #[ht (bs ((L.drop (i+1)).take n)), .int .i64 ((i+1+n:Nat):Int)]:=by unfold lD;rw[l];simp only[kH,g];rw[if_neg (by rw[cY];omega)];show Value.tuple #[ht (bs ((L.drop (i+1)).take n)), .int .i64 ((i+1+((L.drop (i+1)).take n).length:Nat):Int)]=_;rw[cK,cY,show min n (L.length - (i+1))=n by omega]
   rw[b];have u:=gF p;have G: ¬(i:Int)<0:=oM
   clear f m h p b l j g;go_enter dD,dB;go_wp2;go_ret2;refine⟨?_,rfl⟩;rw[<-u.o];simp
  focus
   have z:=of_decide_eq_true h;have q:(L.length:Int)<(i:Int)+1+(n:Int):=oM
   have b:lD L i= hF #[ht (bs []), .int .i64 (-1)]:=by unfold lD;rw[l];simp only[kH,g];rw[if_pos (by rw[cY];omega)]
   rw[b];clear f m h b l j g
 rotate_left;focus
  have b:lD L i= hF #[ht (bs []), .int .i64 (-1)]:=by unfold lD;rw[dF oM];rfl
  rw[b];have q:(L.length:Int)<=(i:Int):=oM
  clear f b
 all_goals go_enter dD,dB;go_wp2;go_ret2;exact⟨rfl,rfl⟩
theorem pD {w:cu} {gM k n:Nat} {e:de} {v:cE} {xs:List cE} (h:w.ownsRow gM e k v n xs): ∃o c,v= ha o n c:=by
 obtain⟨o,c,e,_⟩:=nC h;exact⟨o,c,e⟩
theorem sy:(Tryz.prog.info? 77).map (fun i=>(i.zero,i.size,i.bytes))=ct (ct (.agg #[.string .empty, .string .empty]),2,32):=oP
theorem DX {L k r:List UInt8} (h:kH L=ct (k,r)):k.length<=255/\r.length<L.length:=by
 cases L with
 | nil=>cases h
 | cons b f=>simp only[kH] at h;have c:=b.toNat_lt;split at h;cases h;simp only[cw,cx] at h;obtain⟨rfl,rfl⟩:=h;simp only[cK,cY,j1];omega
theorem uL {n:Nat} {L:List UInt8} (b:0<n) (h:kI L=cv):jm n L=none:=by
 cases n with
 | zero=>omega
 | succ n=>rw[jm,h]
theorem DY {n:Nat} {L r:List UInt8} {x:Kv} (b:0<n) (h:kI L=ct (x,r)):jm n L=(jm (n - 1) r).map (x:: ·):=by
 cases n with
 | zero=>omega
 | succ n=>rw[jm,h];rfl
def wT (o:Option (List Kv)) (w:cu) (e:Ending) (w':cu):Prop:=
 (match o with
 | none=>e= gE (hF #[hE cv, hA cD])
 | some ps=> ∃pv,e= gE (hF #[hE (ct ⟨w.heap.size,0,cv⟩), hA cy])/\h9 w.heap.size w' (.mk w.heap.size pv (ha cv 0 0) ps [] 0))/\cC w.heap.size w w'
theorem Jv (aD:cE) (L:List UInt8) (cnt:Nat) (w:cu) (aA:L.length<=1000000) (aJ:cnt<=1000):
  cI cr 131 #[aD, ht (bs L), .int .i64 cnt] w (wT (jm cnt L) w):=by
 obtain⟨aC,af,aj,ak,M⟩:=info_parts sy;have H:=gF (gK af (gK aj (gK ak M)));clear af aj ak M;obtain⟨aE,O⟩:=nM (wT (jm cnt L) w);rw[O];have G:=gF O;clear O;go_enter func131,ntmps131;go_wp2
 go_loopw [1,18] (fun s i wr=> ∃(k:Nat) (A:List UInt8) (ps:List Kv) (o:Option Addr) (E:Nat),k<=cnt/\i= .int .i64 k/\s= ht (bs A)/\A.length<=1000000/\Hid (jm cnt L=(jm (cnt - k) A).map (ps++ ·)/\ps.length=k)/\
  Bx wr w.heap.size (gX cy (ha o k E) (ha cv 0 0) 0) 129/\wr.ownsRow w.heap.size 77 2 (ha o k E) k (gV ps)/\cC w.heap.size w wr) (fun _ i _=>cnt - (intOf i).toNat)
 case atStart=>refine⟨0,L,[],cv,0,oM,rfl,rfl,aA,gF ⟨?_,rfl⟩,Bx.new w _ _,cV _ _ _ _,Below.one _ _⟩;simp
 case round=>
  obtain⟨k,A,ps,o,E,aK,rfl,rfl,az,c,x,u,B⟩:=hrel;have J:=B.size
  by_cases aL:k<cnt
  .
   have l:=A2 A wr az;cases f:kH A
   case' none=>have j:Hid (jm cnt L=cv):=gF (by rw[c.o.1,uL oM (by unfold kI;rw[f])];rfl);rw[f] at l;have g:=fun N=>A2 [] N oC;simp only[vP,kH] at l g;clear f x u c
   rotate_left
   case' some p=>
    obtain⟨T,am⟩:=p;obtain⟨aO,aP⟩:=DX f;rw[f] at l;simp only[vP] at l;have g:=fun N=>A2 am N oM;obtain⟨K,hK⟩:=nM (bs T);have aH:K.size=T.length:=by rw[<-hK,lM]
    rw[hK] at l;cases h:kH am
    case' none=>have j:Hid (jm cnt L=cv):=gF (by rw[c.o.1,uL oM (by unfold kI;rw[f];simp only;rw[h])];rfl);rw[h] at g;simp only[vP] at g;clear f h x u c hK
    rotate_left
    case' some p=>
     obtain⟨V,U⟩:=p;obtain⟨aQ,aR⟩:=DX h;rw[h] at g;simp only[vP] at g;obtain⟨b,D⟩:=nM (bs V);have aI:b.size=V.length:=by rw[<-D,lM]
     rw[D] at g;cases Z:decide (48<T.length);rotate_left;. have aa:=of_decide_eq_true Z;have j:Hid (jm cnt L=cv):=gF (by rw[c.o.1,uL oM (by unfold kI;rw[f];simp only;rw[h];simp only;rw[if_pos (.inl aa)])];rfl);clear f h x u c hK D;go_wp2_with fail;refine l.mono ?_;rintro e W ⟨rfl,q⟩;go_wp2_with fail;refine(g _).mono ?_;rintro e z ⟨rfl,r⟩;have m:=Below.then B (iq q r) J;go_wp2;rw[<-G.o];unfold wT;rw[j.o];exact⟨rfl,m⟩
     have aa:=of_decide_eq_false Z;cases ab:decide (80<V.length);rotate_left;. have ac:=of_decide_eq_true ab;have j:Hid (jm cnt L=cv):=gF (by rw[c.o.1,uL oM (by unfold kI;rw[f];simp only;rw[h];simp only;rw[if_pos (.inr ac)])];rfl);clear f h x u c hK D;go_wp2_with fail;refine l.mono ?_;rintro e W ⟨rfl,q⟩;go_wp2_with fail;refine(g _).mono ?_;rintro e z ⟨rfl,r⟩;have m:=Below.then B (iq q r) J;go_wp2;rw[<-G.o];unfold wT;rw[j.o];exact⟨rfl,m⟩
     have ac:=of_decide_eq_false ab;have ah:kI A=ct ((K,b),U):=by unfold kI;rw[f];simp only;rw[h];simp only;rw[if_neg oM,hK,D]
     have j:Hid (jm cnt L=(jm (cnt - (k+1)) U).map ((ps++[(K,b)])++ ·)/\(ps++[(K,b)]).length=k+1):=gF ⟨by
      rw[c.o.1,DY oM ah,show cnt - k - 1=cnt - (k+1) by omega,Option.map_map];congr 1;funext y
      simp,by rw[iI,c.o.2];rfl⟩
     clear f h c hK D ah;go_wp2_with fail;refine l.mono ?_;rintro e W ⟨rfl,q⟩;go_wp2_with fail;refine(g _).mono ?_;rintro e z ⟨rfl,r⟩;have I:=iq q r;have m:=Below.then B I J;have ap:=x.gD I;have aB:=nD u I;have M:=m.size;obtain⟨aw,aM,aF⟩:=ap.c3;unfold gX at aw;clear x u B q r I l g;have ar:Hid (∀ao∈[Value.string K,Value.string b],ao.oneCell'=cy):=gF (by intro ao ai;simp at ai;rcases ai with rfl|rfl<;>rfl)
     have av:Hid (gO (· =z.heap.size) (z.alloc (.cells #[.string K, .string b] 77)) (ct ⟨z.heap.size,0,cv⟩) [.string K, .string b]):=gF (gO.bx (Bx.new z #[.string K, .string b] 77));have R:=aB.alloc (.cells #[.string K, .string b] 77);have aq:=ap.alloc (.cells #[.string K, .string b] 77);go_wp2_with (at_builtin;refine o8 rfl _ _ 41 rfl w.heap.size 77 aC _ 2 32 underlying41 H.o.1 H.o.2.1 H.o.2.2.1 H.o.2.2.2 rfl oF (.slice o k E) k (gV ps) rfl R (ct ⟨z.heap.size,0,cv⟩) 1 1 [.string K, .string b] rfl (by intro e;cases e) rfl av.o ar.o (by unfold ds;omega) oM oN ?_;intro aS aT S ae;obtain⟨al,Y,rfl⟩:=pD S;have X:=aq.grown ae fun e=>nu R aq oF e.symm;obtain⟨ax,aN,aG⟩:=X.c3;unfold gX at ax);go_roundw;case rel=>
      refine⟨k+1,U,ps++[(K,b)],al,Y,oM,oQ,rfl,oM,j,?_,?_,?_⟩;have:=X.set 1 (ha al (k+1) Y);unfold gX at this |-;simpa using this;have e:gV (ps++[(K,b)])=gV ps++[ht K, ht b]:=by rw[sw];rfl
      rw[e];exact oX S (a:=⟨w.heap.size,1,cv⟩) (nu S X oF) _;exact iT (Below.jq (m.alloc M _) R ae oN) (cz _)
     case measure=>simp[intOf];omega
   all_goals go_wp2_with fail;refine l.mono ?_;rintro e W ⟨rfl,q⟩;go_wp2_with fail;refine(g _).mono ?_;rintro e z ⟨rfl,r⟩;have m:=Below.then B (iq q r) J;go_wp2;rw[<-G.o];unfold wT;rw[j.o];exact⟨rfl,m⟩
  obtain rfl:k=cnt:=oM
  have ad:jm k L=ct ps:=by rw[c.o.1,Nat.sub_self,jm];simp
  have ag:h9 w.heap.size wr (.mk w.heap.size (ha o k E) (ha cv 0 0) ps [] 0):=by refine .mk _ _ _ _ _ _ (cz _) x ?_ ?_ (fun _ ay=>by cases ay);rw[c.o.2];exact gW.own u;exact gW.own (cV _ _ _ _)
  have j:=gF ad;have au:=gF ag;clear ad ag x u;go_wp2;rw[<-G.o];unfold wT;rw[j.o];exact⟨⟨_,rfl,au.o⟩,B⟩
theorem A4:Maps.Keyed cr 3:=Maps.int_keyed underlying3
def ny (p:Int):Prop:= -9223372036854775808<=p/\p<=9223372036854775807
theorem uM {p:Int} (h:ny p):(Lit.int .i64 p).wf=true:=WalkArith.wf_i64 h
theorem vR {p:Int} (h:ny p):keyOf cr 3 (.int .i64 p)=ct (.int .i64 p):=Maps.keyOf_int_mk underlying3 (uM h)
def kx (w:cu) (b n:Nat) (l:List Int):Prop:=
 ∃D:DataW Unit,w.ownsMap cr 3 (plainElem cr 4) b n D/\ ∀p,ny p->D.atKey (.int .i64 p) (.lit (.bool cD))= .lit (.bool (decide (p∈l)))
theorem kx.made (w:cu):kx (w.alloc (.map #[] 0)) w.heap.size 0 []:=⟨.map [],World.ownsMap_made _ _ _ _,fun _d _=>rfl⟩
theorem kx.kept {w w':cu} {b n:Nat} {l:List Int} {c:Option Nat} (h:kx w b n l) (m:w.grownBy w' c) (p:ct b≠c):kx w' b n l:=by
 obtain⟨f,g,j⟩:=h;exact⟨f,g.kept m p,j⟩
theorem kx.lt {w:cu} {b n:Nat} {l:List Int} (h:kx w b n l):b<w.heap.size:=by
 obtain⟨f,c,_⟩:=h;exact c.lt
theorem gY {B:Nat} {w w':cu} (h:cC B w w') (b:w.heap.size<=B) (row:Option Nat):w.grownBy w' row:=⟨h.os,h.tape,h.output,h.size,fun k c _=>h.block k (iU c b)⟩
theorem kx.below {w w':cu} {b n:Nat} {l:List Int} (h:kx w b n l) (c:cC w.heap.size w w'):kx w' b n l:=h.kept (gY c (cz _) cv) oC
section
variable {ops:Array Oper} {rest:List Oper} {o:Oper} {a:Act} {Q:Exit->Act->cu->Prop} {w:cu}
theorem DZ (u:o.guard=cv) (m x v:Operand) (E:o.op=Op.mapUpdate 119 m x v) {b n:Nat} {l:List Int} (A:a.eval m= .map (ct b)) (G:kx w b n l) (B:n<ds)
  (p:Int) (g:ny p) (I:a.eval x= .int .i64 p) (H:a.eval v= hA cy) (hK: ∀w',kx w' b (n+1) (l++[p])->w.grownBy w' (ct b)->wpList cr ops Q rest (a.put o.dst undef) w'):wpList cr ops Q (o::rest) a w:=by
 obtain⟨h,f,q⟩:=G;refine wpList_mapUpdate_own w u m x v 119 E 3 4 A4 dK _ b n h A f B (.int .i64 p) (.bool cy) (.int .i64 p) I H (vR g) (.lit (.bool cy)) [] (plainElem_bool dn cy) fun w' D z=>hK w' ⟨_,D,fun e r=>?_⟩ z
 by_cases c:e=p
 subst c;rw[Maps.atKey_put_same f.isMap (A4.key (vR g))];simp;rw[Maps.atKey_put_other (fun j=>c (by injection j)),q e r];simp[c]
theorem Jw (w:cu):(zeroValue 4).run cr w= .ok (hA cD) w:=oP
theorem D3 {b n:Nat} {l:List Int} (h:kx w b n l) (p:Int) (f:ny p):(Instr.lookup 119 (.map (ct b)) (.int .i64 p) cD).run cr w= .ok (hA (decide (p∈l))) w:=by
 obtain⟨q,g,j⟩:=h;obtain⟨v,r,m,c⟩:=g.lookup A4 dK (Jw w) (plainElem_bool dn cD) (vR f);rw[j p f] at c;rw[m];unfold plainElem at c;simp only[dn] at c;cases v<;>simp at c
 rw[c.1]
end
theorem Jy {L r:List UInt8} {x:Kv} (h:kI L=ct (x,r)):k6 x:=by
 unfold kI at h;split at h;cases h;split at h;cases h;split at h;cases h;rename_i b;simp only[cw,cx] at h;obtain⟨rfl,rfl⟩:=h;unfold k6;simp only[lM];omega
theorem tE: ∀{n:Nat} {L:List UInt8} {ps:List Kv},jm n L=ct ps->ps.length=n/\ ∀p∈ps,k6 p
 | 0,_,_,h=>by simp only[jm,cw] at h;subst h;exact⟨rfl,fun _ h=>by cases h⟩
 | n+1,L,ps,h=>by rw[jm] at h;split at h;cases h;rename_i x r j;obtain⟨q,g,rfl⟩:=cN.1 h;obtain⟨c,f⟩:=tE g;refine⟨by rw[j1,c],fun p b=>?_⟩;rcases j4.1 b with rfl|b;exact Jy j;exact f p b
theorem vS {g:Int->List Int->Option (Nd×Nat×List Int)}: ∀{l:List Int} {o:Option Nat} {u m:List Int} {b:List Nd} {k:Nat},jn g l o u=ct (b,k,m)->
  b.length=l.length/\ ∀x∈b,∃p j f q,g p j=ct (x,f,q)
 | [],_,_,_,_,_,h=>by simp only[jn,cw,cx] at h;obtain⟨rfl,-,-⟩:=h;exact⟨rfl,fun _ h=>by cases h⟩
 | p::r,o,u,m,b,k,h=>by rw[jn] at h;split at h;cases h;rename_i n f j B;split at h;cases h;obtain⟨⟨G,E,q⟩,D,e⟩:=cN.1 h;simp only[cx] at e;obtain⟨rfl,rfl,rfl⟩:=e;obtain⟨z,A⟩:=vS D;refine⟨by rw[j1,j1,z],fun x c=>?_⟩;rcases j4.1 c with rfl|c;exact⟨p,u,f,j,B⟩;exact A x c
def p6 (gI gJ:Int) (n:Nd):Prop:=n.first=cy/\n.ie.size<=48/\gI+2<=n.page/\n.page<gJ/\lC n
theorem D4 {ps:List Kv} {b:Int} (h:0<ps.length):(Nd.mk ps [] b).first=true:=by
 rw[Nd.first];cases ps with
 | nil=>simp at h
 | cons=>rfl
theorem D5 {ps:List Kv} {b:Int} (h: ∀p∈ps,k6 p):(Nd.mk ps [] b).ie.size<=48:=by
 rw[Nd.ie];cases ps with
 | nil=>exact dJ _
 | cons x c=>exact(h x oC).1
theorem A5 {d:ik} {gI gJ:Int} (z:0<=gI) (A:gJ<=1000000): ∀(f:Nat) {gN:Bool} {page:Int} {used u:List Int} {n:Nd} {k:Nat},iR d gI gJ f gN page used=ct (n,k,u)->p6 gI gJ n/\n.page=page
 | 0,_,_,_,_,_,_,h=>by cases h
 | f+1,gN,page,used,u,n,k,h=>by
  rw[iR] at h;split at h;cases h;rename_i N;split at h;split at h;cases h;rename_i B;split at h;cases h;rename_i ps H;split at h;simp only[cw,cx] at h;obtain⟨rfl,-,-⟩:=h;obtain⟨m,c⟩:=tE H;refine⟨⟨D4 oM,D5 c,by show gI+2<=page;omega,by show page<gJ;omega, .inl ⟨rfl,by show ps.length<=3;omega,c⟩⟩,rfl⟩;cases h;split at h;cases h;rename_i B;split at h;cases h;rename_i b O T G;split at h;.
   simp only[cw,cx] at h;obtain⟨rfl,-,-⟩:=h;obtain⟨m,c⟩:=vS G;have p:b.length=((gQ d page).getD 1 0).toNat:=by rw[m];simp[mg]
   have j: ∀x∈b,p6 gI gJ x:=fun x l=>by obtain⟨S,U,R,V,E⟩:=c x l;exact(A5 z A f E).1
   have D:lC (Nd.mk [] b page):= .inr ⟨by show 2<=b.length;omega,by show b.length<=8;omega,fun x l=>by obtain⟨q,r,J,M,_⟩:=j x l;exact⟨q,r,oM,oM⟩⟩
   refine⟨⟨?_,?_,by show gI+2<=page;omega,by show page<gJ;omega,D⟩,rfl⟩;.
    cases b with
    | nil=>rw[c5] at p;omega
    | cons g I=>rw[Nd.first];exact(j g oC).1
   cases b with
   | nil=>rw[c5] at p;omega
   | cons g I=>rw[Nd.ie];exact(j g oC).2.1
  cases h
theorem y5: ∀(n:Nat) (l:List Int) (a:Int),l.Nodup->(∀x∈l,a<=x/\x<a+n)->l.length<=n
 | 0,[],_,_,_=>cz _
 | 0,x::l,a,_,h=>by have:=h x oC;omega
 | n+1,l,a,hn,h=>by
  have f:=y5 n (l.erase (a+n)) a (hn.erase _) fun x b=>by
   have g:=h x (List.mem_of_mem_erase b);have j:x≠a+n:=fun e=>by subst e;exact(List.Nodup.not_mem_erase hn) b
   omega
  have c:=List.length_erase (l:=l) (a:=a+(n:Int));split at c<;>omega
def pj (gI gJ:Int) (u:List Int):Prop:=u.Nodup/\ ∀p∈u,gI+2<=p/\p<gJ
theorem pj.len {gI gJ:Int} {u:List Int} (h:pj gI gJ u) (c:gI+2<=gJ):u.length<=(gJ - gI - 2).toNat:=
 y5 _ u (gI+2) h.1 fun x b=>by have:=h.2 x b;omega
theorem pj.snoc {gI gJ page:Int} {u:List Int} (h:pj gI gJ u) (f:gI+2<=page) (g:page<gJ) (j:page∉u):pj gI gJ (u++[page]):=by
 refine⟨?_,fun m b=>?_⟩;rw[dk];exact⟨h.1,oC,fun x l y c e=>by simp at c;subst c;subst e;exact j l⟩;rcases jD.1 b with b|b;exact h.2 m b;simp at b;subst b;exact⟨f,g⟩
theorem D6 {gI gJ:Int} {g:Int->List Int->Option (Nd×Nat×List Int)} (c: ∀p u n k b,g p u=ct (n,k,b)->pj gI gJ u->pj gI gJ b/\u.length<=b.length):
  ∀{l:List Int} {o:Option Nat} {u b:List Int} {f:List Nd} {k:Nat},jn g l o u=ct (f,k,b)->pj gI gJ u->pj gI gJ b/\u.length<=b.length
 | [],_,_,_,_,_,h,hu=>by simp only[jn,cw,cx] at h;obtain⟨-,-,rfl⟩:=h;exact⟨hu,cz _⟩
 | p::r,o,u,b,f,k,h,hu=>by rw[jn] at h;split at h;cases h;rename_i n D H z;split at h;cases h;obtain⟨⟨G,E,I⟩,q,e⟩:=cN.1 h;simp only[cx] at e;obtain⟨rfl,rfl,rfl⟩:=e;obtain⟨j,A⟩:=c _ _ _ _ _ z hu;obtain⟨m,B⟩:=D6 c q j;exact⟨m,oM⟩
theorem y6 {d:ik} {gI gJ:Int}: ∀(f:Nat) {gN:Bool} {page:Int} {used u:List Int} {n:Nd} {k:Nat},iR d gI gJ f gN page used=ct (n,k,u)->pj gI gJ used->pj gI gJ u/\used.length<u.length
 | 0,_,_,_,_,_,_,h,_=>by cases h
 | f+1,gN,page,used,u,n,k,h,hu=>by
  rw[iR] at h;split at h;cases h;rename_i p;have c:=hu.snoc (page:=page) oM oM fun m=>p (.inr (.inr m));split at h;split at h;cases h;split at h;cases h;split at h;simp only[cw,cx] at h;obtain⟨-,-,rfl⟩:=h;exact⟨c,oC⟩;cases h;split at h;cases h;split at h;cases h;rename_i z r D l;split at h;simp only[cw,cx] at h;obtain⟨-,-,rfl⟩:=h;obtain⟨g,b⟩:=D6 (fun A u n k B j q=>by have:=y6 f j q;exact⟨this.1,oM⟩) l c
  refine⟨g,?_⟩;rw[iI] at b;simp at b;omega;cases h
theorem D7 {m:Nat} {g:Int->List Int->Option (Nd×Nat×List Int)} (c: ∀p u n k b,g p u=ct (n,k,b)->k<=m):
  ∀{l:List Int} {o:Option Nat} {u b:List Int} {f:List Nd} {k:Nat},jn g l o u=ct (f,k,b)->o.getD 0<=m->k<=m
 | [],_,_,_,_,_,h,ho=>by simp only[jn,cw,cx] at h;obtain⟨-,rfl,-⟩:=h;exact ho
 | p::r,o,u,b,f,k,h,ho=>by rw[jn] at h;split at h;cases h;rename_i n z D q;split at h;cases h;obtain⟨⟨B,A,E⟩,j,e⟩:=cN.1 h;simp only[cx] at e;obtain⟨rfl,rfl,rfl⟩:=e;exact D7 c j (by simpa using c _ _ _ _ _ q)
theorem D8 {d:ik} {gI gJ:Int}: ∀(f:Nat) {gN:Bool} {page:Int} {used u:List Int} {n:Nd} {k:Nat},iR d gI gJ f gN page used=ct (n,k,u)->k<=f
 | 0,_,_,_,_,_,_,h=>by cases h
 | f+1,gN,page,used,u,n,k,h=>by rw[iR] at h;split at h;cases h;split at h;split at h;cases h;split at h;cases h;split at h;simp only[cw,cx] at h;omega;cases h;split at h;cases h;split at h;cases h;rename_i gC g m c;split at h;simp only[cw,cx] at h;have:=D7 (fun j u n k l b=>D8 f b) c (dJ _);omega;cases h
def tU (d:ik) (po co:Option Addr) (pc cc:Nat) (gI gJ:Int) (mb:Nat):Array cE:=#[.int .i64 d.size, ha po d.gG.length pc, ha co d.gH.length cc, .int .i64 d.left, .int .i64 gI, .int .i64 gJ, .map (ct mb)]
structure mK (B0:Nat) (w:cu) (lb mb:Nat) (d:ik) (po co:Option Addr) (pc cc:Nat) (gI gJ:Int):Prop where
 h1:B0<=mb
 h2:lb≠mb
 hx:Bx w lb (tU d po co pc cc gI gJ mb) 146
 hd:ja (· <B0) w (.agg (DD d po co pc cc)) d
 hz:B0<=w.heap.size
theorem mK.grown {B0:Nat} {w w':cu} {lb mb:Nat} {d:ik} {po co:Option Addr} {pc cc:Nat} {gI gJ:Int} (h:mK B0 w lb mb d po co pc cc gI gJ) (b:w.grownBy w' (ct mb)):mK B0 w' lb mb d po co pc cc gI gJ:=
 ⟨h.h1,h.h2,h.hx.grown b (by simpa using h.h2),h.hd.same (w':=w') (fun c f=>b.block c (iU f h.hz) (by have:=h.h1;simp;omega)),jU h.hz b.size⟩
theorem mK.nJ {B0:Nat} {w:cu} {lb mb:Nat} {d:ik} {po co:Option Addr} {pc cc:Nat} {gI gJ:Int} (h:mK B0 w lb mb d po co pc cc gI gJ):iF w (.agg (DD d po co pc cc)) d:=h.hd.mono fun _ b=>iU b h.hz
theorem mK.stays {B0 B:Nat} {w w':cu} {lb mb:Nat} {d:ik} {po co:Option Addr} {pc cc:Nat} {gI gJ:Int} (h:mK B0 w lb mb d po co pc cc gI gJ) (b:cC B w w') (f:lb<B) (g:B0<=B):mK B0 w' lb mb d po co pc cc gI gJ:=
 ⟨h.h1,h.h2,h.hx.below b f,h.hd.same (w':=w') fun c j=>b.block c (iU j g),jU h.hz b.size⟩
theorem kx.same {w w':cu} {b n:Nat} {l:List Int} (h:kx w b n l) (q:w'.heap[b]?=w.heap[b]?):kx w' b n l:=by
 obtain⟨c,⟨g,f,j,m⟩,p⟩:=h;exact⟨c,⟨g,f,q.trans j,m⟩,p⟩
theorem AT.qJ (l:List AT) (t:AT):AT.iO (l++[t])=AT.iO l++t.fp:=by rw[AT.oD,AT.oD];simp
theorem h9.down {gM b:Nat} {w:cu} (c:b<=gM): ∀{t:AT},h9 gM w t->h9 b w t:=by
 intro t;have f: ∀{e:de} {k n:Nat} {v:cE} {xs:List cE},gW w gM e k v n xs->gW w b e k v n xs:=by intro e k n v xs h;refine⟨h.1,?_⟩;rcases h.2 with h|⟨m,j,l,p,q,r⟩;exact .inl h;exact .inr ⟨m,j,l,p,jU c q,r⟩
 induction t using AT.ind with
 | h A H D G B E z=>intro h;have u:=h.hc;exact .mk _ _ _ _ _ _ (jU c h.hb) h.hx (f h.hp) (f h.hk) fun t g=>z t g (u t g)
theorem h9.grown {gM:Nat} {w w':cu} {t:AT} {c:Option Nat} (h:h9 gM w t) (f:w.grownBy w' c) (g: ∀x,c=ct x->x∉t.fp):h9 gM w' t:=
 h.same fun x b=>f.block x (h.lt x b).2 fun e=>g x e.symm b
def tV (o:Option (Nd×Nat×List Int)) (mb:Nat) (w:cu) (e:Ending) (w':cu):Prop:=
 w.grownBy w' (ct mb)/\
 match o with
 | none=> ∃v k,e= gE (hF #[v, .int .i64 k, hA cD])
 | some (n,k,u)=> ∃t:AT,e= gE (hF #[t.ptr, .int .i64 (k:Int), hA cy])/\t.nd=n/\h9 w.heap.size w' t/\t.fp.Nodup/\kx w' mb u.length u
def xB (o:Option (List Nd×Nat×List Int)) (mb:Nat) (w:cu) (e:Ending) (w':cu):Prop:=
 w.grownBy w' (ct mb)/\
 match o with
 | none=> ∃v k,e= gE (hF #[v, .int .i64 k, hA cD])
 | some (ns,k,u)=> ∃(kv:cE) (ts:List AT),e= gE (hF #[hE (ct ⟨w.heap.size,0,cv⟩), .int .i64 ((k+1:Nat):Int), hA cy])/\ts.map AT.nd=ns/\
   h9 w.heap.size w' (.mk w.heap.size (ha cv 0 0) kv [] ts 0)/\(AT.mk w.heap.size (ha cv 0 0) kv [] ts 0).fp.Nodup/\kx w' mb u.length u
theorem wU:(Tryz.prog.info? 88).map (fun i=>(i.zero,i.size,i.bytes))=ct (ct (hE cv),1,8):=oP
theorem xC {S:List UInt8} {n j:Nat} (h:j<n):(mg S n).drop j=mI S j::(mg S n).drop (j+1):=by
 have b:j<(mg S n).length:=by simp[mg];exact h
 rw[dA b];congr 1;simp[mg]
theorem Jz {g:Int->List Int->Option (Nd×Nat×List Int)} {p:Int} {r u c:List Int} {o:Option Nat} {n:Nd} {k:Nat} (h:g p u=ct (n,k,c)) (b:o=cv\/o=ct k):jn g (p::r) o u=(jn g r (ct k) c).map fun x=>(n::x.1,x.2):=by
 rw[jn,h];simp only;rw[if_neg];rintro⟨f,j⟩;rcases b with b|b;exact f b;exact j b
section
variable (B0 lb mb:Nat) (d:ik) (po co:Option Addr) (pc cc:Nat) (gI gJ:Int)
def qK (f:Nat):Prop:= ∀(gN:Bool) (page:Int) (used:List Int) (w:cu),mK B0 w lb mb d po co pc cc gI gJ->kx w mb used.length used->pj gI gJ used->(gJ - gI - 2).toNat<f+used.length->ny page->
 cI cr 91 #[hE (ct ⟨lb,0,cv⟩), .int .i64 page, hA gN] w (tV (iR d gI gJ f gN page used) mb w)
theorem JA (f:Nat) (bk:qK B0 lb mb d po co pc cc gI gJ f) (_hft:gI+2<=gJ) (_ht:gJ<=1000000) (cb:f<=1000000) (S:List UInt8) (cnt:Nat) (b6:2 * cnt<=S.length) (b7:S.length<=1000000) (b8:2<=cnt) (b9:cnt<=8) (used:List Int) (w:cu)
  (ac:mK B0 w lb mb d po co pc cc gI gJ) (aD:kx w mb used.length used) (ao:pj gI gJ used) (ca:(gJ - gI - 2).toNat<f+used.length):
  cI cr 132 #[hE (ct ⟨lb,0,cv⟩), ht (bs S), .int .i64 cnt] w (xB (jn (iR d gI gJ f cD) (mg S cnt) cv used) mb w):=by
 obtain⟨bS,a1,bh,bi,bj⟩:=info_parts wU;have Z:=gF (gK a1 (gK bh (gK bi bj)));clear a1 bh bi bj;obtain⟨F,aB⟩:=nM (iR d gI gJ f cD);rw[aB];have au:=gF aB;have bt:=gF bk;obtain⟨bW,aE⟩:=nM (xB (jn F (mg S cnt) cv used) mb w);rw[aE];have av:=gF aE;obtain⟨s,al⟩:=nM (bs S);have ch:s.size=S.length:=by rw[<-al,lM]
 have a9: ∀(i:Nat) (c:i<s.size),s[i].toNat=(S.getD i 0).toNat:=fun i c=>by
  subst al;have aS:i<S.length:=oM
  rw[vQ _ _ aS,List.getD_eq_getElem?_getD,cA aS];rfl
 rw[al];have aR:=gF a9;have bo:=gF ac;have br:=gF aD;have bL:=aD.lt;have bJ:=ac.hx.lt;have bE:=ac.hz;obtain⟨N,r⟩:=nM w.heap.size;clear aE aB bk al a9 ac aD;go_enter func132,ntmps132;go_wp2
 go_loopw [10,18] (fun bC i wr=> ∃(b:Nat) (h:List AT) (o:Option Addr) (j:Nat) (u:List Int) (dep:Nat),b<=cnt/\i= .int .i64 b/\bC= .int .i64 dep/\
  Hid (jn F (mg S cnt) cv used=(jn F ((mg S cnt).drop b) (if b=0 then cv else ct dep) u).map (fun x=>(h.map AT.nd++x.1,x.2))/\h.length=b)/\pj gI gJ u/\used.length<=u.length/\dep<=f/\
  Bx wr N #[hA cD, ha cv 0 0, ha o b j, .int .i64 0] 129/\wr.ownsRow N 88 1 (ha o b j) b (h.map AT.ptr)/\
  Hid ((∀t∈h,h9 N wr t)/\(AT.iO h).Nodup/\(∀x∈AT.iO h,N<x/\(cU o b j).ownBlock≠ct x)/\kx wr mb u.length u/\mK B0 wr lb mb d po co pc cc gI gJ)/\w.grownBy wr (ct mb)/\N<wr.heap.size) (fun _ i _=>cnt - (intOf i).toNat)
 case atStart=>refine⟨0,[],cv,0,used,0,oM,rfl,rfl,gF ⟨?_,rfl⟩,ao,cz _,dJ _,by subst r;exact Bx.new w _ _,cV _ _ _ _,gF ⟨fun _ c=>(by cases c),List.nodup_nil,fun _ c=>(by cases c),br.o.kept (dd w _ cv) oC,bo.o.grown (dd w _ _)⟩,dd w _ _,by subst r;simp⟩;simp
 case round=>
  obtain⟨b,h,o,j,u,dep,cd,rfl,rfl,q,be,ci,b',x,R,Y,aG,aX⟩:=hrel
  by_cases aJ:b<cnt
  .
   obtain⟨p1,ai⟩:=nM ((S.getD (2 * b) 0).toNat);obtain⟨p2,aj⟩:=nM ((S.getD (2 * b+1) 0).toNat);have bX:p1<256:=by rw[<-ai];exact UInt8.toNat_lt _
   have bA:p2<256:=by rw[<-aj];exact UInt8.toNat_lt _
   obtain⟨D,T⟩:=nM (2 * b);have cg:2 * (b:Int)=(D:Int):=oM
   have bP:D+1<s.size:=oM
   have aO: ∀c:D<s.size,s[D].toNat=p1:=fun c=>by rw[aR.o, <-T,ai]
   have aP: ∀c:D+1<s.size,s[D+1].toNat=p2:=fun c=>by rw[aR.o, <-T,aj]
   clear T;have bO:D<s.size:=oM
   have b0:=aO bO;have b1:=aP bP;have a7:mI S b=((p1 * 256+p2:Nat):Int):=by unfold mI;rw[ai,aj]
   have aa:=gF a7;clear ai aj a7 aO aP;have bN:bits .or .i64 ((p1:Int) * 256) (p2:Int)=((p1 * 256+p2:Nat):Int):=by have:=xv p1 p2 oM bA;rw[cM ((p1:Int) * 256) oM,cM (p2:Int) oM,cM ((p1:Int) * 256+p2) oM] at this;rw[this];omega
   obtain⟨aq,a8⟩: ∃n:Nat,p1 * 256+p2=n:=⟨_,rfl⟩;rw[a8] at bN aa;have cf:aq<65536:=oM
   clear a8;have aU:=gF aG;have aY:=gF R;have aZ:=gF x;clear aG R x;go_upto_region 6 with fail
   have bB:=jv.cells wr;refine pS 14 8 #[cy,cy,cy,cy,cy,cy,cy,cy,cy,cy,cy,cy,cy,cy,cD,cD,cD,cD,cD,cD,cD,cD] (fun i=>cv) oP oO oO oP ?_;simp only[df,dz];refine LW.b 14 14 ?_;simp only[jC];repeat (go_big_quiet_step (fail))
   refine cR ?_;refine LW.done ?_;intro M aV;have z:=aV.below;obtain⟨U,V,I,W,am⟩:=Y.o;have aC:=am.grown (gY z (cz _) _);have aW:=W.below z;have bF:=gF aC;have ae:=gF (bt.o cD (aq:Int) u M aC aW be oM ⟨oM,oM⟩);rw[au.o] at ae;have ag:=gF fun t H=>(U t H).ij z;have aH:Hid (w.grownBy M (ct mb)):=gF (aU.o.trans (gY z (cz _) _));have bf:=gF (aZ.o.gD z);have ah:=gF (nD aY.o z);have a5:=gF (gK V I);have bG:N<M.heap.size:=iU aX z.size;have a4:=gF (fun x g=>by obtain⟨t,H,g⟩:=AT.iK.1 g;exact((ag.o t H).lt x g).2: ∀x∈AT.iO h,x<M.heap.size)
   clear aV bB z U V I W am aC aW Y aU aZ aY aX;refine iG 14 fun K hK=>?_;go_simp;refine ae.o.mono ?_;rintro e p ⟨A,ak⟩;cases l:F (aq:Int) u with
   | none=>
    rw[l] at ak;obtain⟨v,k,rfl⟩:=ak;have J:Hid (jn F (mg S cnt) cv used=cv):=gF (by
     rw[q.o.1,xC aJ,aa.o,jn,l];rfl)
    refine hK _ _ ?_;clear hK K l ae;simp only[gU];refine iG 15 fun K hK=>?_;go_simp;refine hK _ _ ?_;clear hK K;refine cQ (i:=16) (v:=?_) rfl oP oP oP (fun _ _ _ c=>c) (dj ⟨oO,?_⟩) ?_;rotate_left;. intro w;go_simp;try with_reducible rfl
    simp only[cL,gU];refine cQ (i:=17) (v:=?_) rfl oP oP oP (fun _ _ _ c=>c) (dj ⟨oO,?_⟩) ?_;rotate_left;. intro w;go_simp;try with_reducible rfl
    simp only[cL,gU];refine cQ (i:=18) (v:=?_) rfl oP oP oP (fun _ _ _ c=>c) (dj ⟨oO,?_⟩) ?_;rotate_left;. intro w;go_simp;try with_reducible rfl
    simp only[cL,gU];refine iG 19 fun K hK=>?_;go_simp;refine hK _ _ ?_;clear hK K;refine iG 20 fun K hK=>?_;go_simp;refine hK _ _ ?_;clear hK K;refine iG 21 fun K hK=>?_;go_simp;refine hK _ _ ?_;clear hK K;refine kS ?_;go_wp2;refine cJ (v:= hF #[hE cv, .int .i64 0, hA cD]) (by simp[dc,du,go_sem]) rfl ?_;rw[<-av.o];unfold xB;rw[J.o];exact⟨aH.o.trans A,_,_,rfl⟩
   | some bV=>
    obtain⟨n,k,X⟩:=bV;rw[l] at ak;obtain⟨t,rfl,bc,aM,a',bb⟩:=ak;have E:=gF (aH.o.trans A);have bq:=gF (bF.o.grown A);have bK:mb<N:=by rw[<-r];exact bL
    have bw:=gF (aM.down (Nat.le_of_lt bG));have bx:=gF bb;have aw:=gF aM.lt;have bz:Hid (∀x∈h,h9 N p x):=gF (fun x g=>(ag.o x g).grown A fun y e m=>by cases e;have:=((ag.o x g).lt _ m).1;omega);have ax:=gF (bf.o.grown A oN);have bu:=gF (ah.o.kept A (.inr fun e=>by have:=(ah.o.lt mb e).1;omega));have bv:=gF ah.o.lt;have ck:M.heap.size<=p.heap.size:=A.size;have aQ:=gF (gK bc a');refine hK _ _ ?_;clear hK K ae A aM a' bb bc bf ah ag aH;simp only[AT.ptr,gU];refine iG 15 fun K hK=>?_;go_simp;refine hK _ _ ?_;clear hK K;refine cQ (i:=16) (v:=?_) rfl oP oP oP (fun _ _ _ c=>c) (dj ⟨oO,?_⟩) ?_;rotate_left;. intro w;go_simp;try with_reducible rfl
    simp only[cL,gU];refine cQ (i:=17) (v:=?_) rfl oP oP oP (fun _ _ _ c=>c) (dj ⟨oO,?_⟩) ?_;rotate_left;. intro w;go_simp;try with_reducible rfl
    simp only[cL,gU];refine cQ (i:=18) (v:=?_) rfl oP oP oP (fun _ _ _ c=>c) (dj ⟨oO,?_⟩) ?_;rotate_left;. intro w;go_simp;try with_reducible rfl
    simp only[cL,gU];refine iG 19 fun K hK=>?_;go_simp;refine hK _ _ ?_;clear hK K;refine iG 20 fun K hK=>?_;go_simp;refine hK _ _ ?_;clear hK K;refine iG 21 fun K hK=>?_;go_simp;refine hK _ _ ?_;clear hK K;refine kS ?_;cases ad:(decide (0<b)&&decide (k≠dep));rotate_left;.
     simp only[Bool.and_eq_true,decide_eq_true_eq] at ad;obtain⟨ce,a2⟩:=ad;have J:Hid (jn F (mg S cnt) cv used=cv):=gF (by
      rw[q.o.1,xC aJ,aa.o,if_neg oM,jn,l];simp only;rw[if_pos ⟨oC,by simpa using fun e=>a2 e.symm⟩];rfl)
     have b4:(0:Int)<(b:Int):=oM
     have b5:((k:Int)!=(dep:Int))=true:=oN
     clear l a2;go_wp2;refine cJ (v:= hF #[hE cv, .int .i64 0, hA cD]) (by simp[dc,du,go_sem]) rfl ?_;rw[<-av.o];unfold xB;rw[J.o];exact⟨E.o,_,_,rfl⟩
    have aI:b=0\/k=dep:=by simp only[c8,decide_eq_false_iff_not] at ad;omega
    have bn:Hid (jn F (mg S cnt) cv used=(jn F ((mg S cnt).drop (b+1)) (if b+1=0 then cv else ct k) X).map (fun x=>((h++[t]).map AT.nd++x.1,x.2))/\(h++[t]).length=b+1):=gF ⟨by
     rw[q.o.1,xC aJ,aa.o,Jz l (by rcases aI with rfl|rfl;exact .inl rfl;by_cases az:b=0;exact .inl (if_pos az);exact .inr (if_neg az)),if_neg oM,Option.map_map];congr 1;funext y;simp[aQ.o.1],by rw[iI,q.o.2];rfl⟩
    obtain⟨bQ,cj⟩:pj gI gJ X/\u.length<X.length:=y6 f (by rw[au.o];exact l) be;have bH:k<=f:=D8 f (gN:=cD) (page:=aq) (used:=u) (n:=n) (u:=X) (d:=d) (gI:=gI) (gJ:=gJ) (by rw[au.o];exact l);have T: ¬(0:Int)<(b:Int)\/((0:Int)<(b:Int)/\((k:Int)!=(dep:Int))=cD):=by
     rcases aI with c|c;exact .inl oM
     by_cases az:b=0
     exact .inl oM;exact .inr ⟨oM,oN⟩
    have bm:Hid (∀u∈[Value.pointer (ct ⟨t.b,0,cv⟩)],u.oneCell'=cy):=gF (by intro u ao;simp at ao;subst ao;rfl);obtain⟨bY,cm,b2⟩:=ax.o.c3;have aK:=bu.o.alloc (.cells #[hE (ct ⟨t.b,0,cv⟩)] 88);clear l ad aI;rcases T with bU|⟨bU,cn⟩;all_goals
     go_wp2_with (at_builtin;refine wpList_append_own_at _ rfl (.tmp 56) (.tmp 58) 127 rfl N 88 bS _ 1 8 underlying127 Z.o.1 Z.o.2.1 Z.o.2.2.1 Z.o.2.2.2 rfl oF (.slice o b j) b (h.map AT.ptr) rfl aK ⟨p.heap.size,0,cv⟩ 1 1 [.pointer (ct ⟨t.b,0,cv⟩)] rfl rfl (cell_one_new _ _ _) bm.o (by unfold ds;omega) oM oN ?_;intro cp ar aL af _ bI;obtain⟨ap,ab,rfl⟩:=pD aL;have aN:=(ax.o.alloc (.cells #[.pointer (ct ⟨t.b,0,cv⟩)] 88)).grown af fun e=>nu aK (ax.o.alloc _) oF e.symm;obtain⟨bZ,bT,b3⟩:=aN.c3);go_roundw;case rel=>
      have cl:p.heap.size+1<=ar.heap.size:=by have:=af.size;simp at this;exact this
      have B:cC N p (ar.setCell ⟨N,2,cv⟩ (ha ap (b+1) ab)):=iT (Below.jq ((Below.refl _ p).alloc oM _) aK af oN) (cz _);have bl: ∀x:AT,h9 N p x->(∀y∈x.fp,N<y/\(cU o b j).ownBlock≠ct y)->h9 N (ar.setCell ⟨N,2,cv⟩ (ha ap (b+1) ab)) x:=by intro x g m;refine g.same fun y bg=>?_;have aA:=(g.lt y bg).2;have aT:=m y bg;exact(Below.heap_setCell ar ⟨N,2,cv⟩ _ y (by show y≠N;omega)).trans ((af.block y oN fun e=>aT.2 e.symm).trans (Below.heap_alloc p _ y aA))
      have bd: ∀y∈AT.iO h,N<y/\(cU o b j).ownBlock≠ct y:=a5.o.2;have H: ∀y∈t.fp,N<y/\(cU o b j).ownBlock≠ct y:=fun y m=>by have aA:=(aw.o y m).1;exact⟨oM,fun e=>by have:=(bv.o y e).2;omega⟩
      refine⟨b+1,h++[t],ap,ab,X,k,oM,oQ,rfl,bn,bQ,oM,bH,?_,?_,gF ⟨?_,?_,?_,?_,?_⟩,?_,?_⟩;have:=aN.set 2 (ha ap (b+1) ab);simpa using this;have e:(h++[t]).map AT.ptr=h.map AT.ptr++[hE (ct ⟨t.b,0,cv⟩)]:=by simp[AT.ptr]
      rw[e];exact oX aL (a:=⟨N,2,cv⟩) (nu aL aN oF) _;intro x g;rcases jD.1 g with g|g;exact bl x (bz.o x g) fun y m=>bd y (AT.iK.2 ⟨x,g,m⟩);simp at g;subst g;exact bl x bw.o H;rw[AT.qJ,dk];refine⟨a5.o.1,aQ.o.2,fun a aF ay G e=>?_⟩;have aA:=a4.o a aF;have aT:=(aw.o ay G).1;omega;intro x g;rw[AT.qJ] at g;have G:(N<x/\(cU o b j).ownBlock≠ct x)/\x<p.heap.size:=by rcases jD.1 g with g|g;exact⟨bd x g,by have:=a4.o x g;omega⟩;exact⟨H x g,(aw.o x g).2⟩
      refine⟨G.1.1,fun e=>?_⟩;rcases bI with c|c;exact G.1.2 (c▸e);rw[c] at e;simp at e;omega;exact bx.o.same (B.block mb bK);exact bq.o.stays B (by rw[<-r];exact bJ) (by rw[<-r];exact bE);exact⟨B.os.trans E.o.os,B.tape.trans E.o.tape,B.output.trans E.o.output,jU E.o.size B.size,fun y m bM=>(B.block y (by rw[<-r];exact m)).trans (E.o.block y m bM)⟩;have:=bT;simp;omega
     case measure=>simp[intOf];omega
  obtain rfl:b=cnt:=oM
  obtain⟨U,V,I,W,am⟩:=Y.o;have a0:(mg S b).drop b=[]:=dF (by simp[mg]);have J:Hid (jn F (mg S b) cv used=ct (h.map AT.nd,dep,u)):=gF (by
   rw[q.o.1,a0,if_neg oM,jn]
   simp)
  have ba:h.isEmpty=false:=by
   have:=q.o.2;cases h with
   | nil=>simp at this;omega
   | cons=>rfl
  have a3:h9 N wr (.mk N (ha cv 0 0) (ha o b j) [] h 0):=by refine .mk _ _ _ _ _ _ (cz _) (by rw[ba];exact x) (gW.own (cV _ _ _ _)) ?_ U;rw[q.o.2];exact gW.own R
  have a6:(AT.mk N (ha cv 0 0) (ha o b j) [] h 0).fp.Nodup:=by
   rw[AT.fp];have bD:(cU cv 0 0).ownBlock.toList=[]:=rfl;rw[bD,List.nil_append,List.nodup_cons];refine⟨fun O=>?_,?_⟩;rcases jD.1 O with O|O;exact nu R x oF (by simpa using O);have:=(I N O).1;omega;rw[dk];refine⟨?_,V,fun a aF ay G e=>?_⟩;. cases (cU o b j).ownBlock<;>simp
   exact(I ay G).2 (by rw[<-e];simpa using aF)
  have bp:=gF (gK a3 (gK a6 W));have bR:wrap64 ((dep:Int)+1)=(dep:Int)+1:=cM _ oM;clear a3 a6 U V I W am ba a0 q R x Y;go_wp2;refine cJ (v:= hF #[hE (ct ⟨N,0,cv⟩), .int .i64 ((dep:Int)+1), hA cy]) (by simp[dc,du,go_sem,bR]) rfl ?_;rw[<-av.o];unfold xB;rw[J.o];refine⟨aG, ha o b j,h,by rw[r];rfl,rfl,?_⟩;rw[r];exact bp.o
end
end Go.Proofs.YtlefmmhlpgmbjaaGreat
