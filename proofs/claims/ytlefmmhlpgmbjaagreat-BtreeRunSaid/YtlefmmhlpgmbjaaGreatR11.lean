import Derived.Test.YtlefmmhlpgmbjaaGreatR10
open Go.Value renaming slice->fq,string->fD,ownBlock->gp
open Option renaming none->fr,some->fw,map_eq_some_iff->gv
open Go renaming wpAny_take->fs,Value->fL,bodyPost_ret->fO,World->fR,wpQuiet_nil->fX,maxLen->ga,results->gf,Calls->gj,wpAny_ready->gu
open Bool renaming false->ft,true->fI,false_eq_true->hd
open Nat renaming le_refl->fu,le_succ->fV
open Go.Act renaming put->fv
open Or renaming inl->fx
open Go.RowKit.Below renaming heap_setCell->fy,refl->fF,heap_alloc->ho
open Go.RowKit renaming Below->fz
open List renaming getElem?_eq_getElem->fA,setIfInBounds_toArray->fB,append_nil->fH,getElem_append_right->fM,getElem_append_left->fN,set_cons_zero->fP,getD_eq_getElem?_getD->fT,length_take->fW,flatten_cons->gh,length_drop->gi,length_nil->gn,dropWhile_cons_of_neg->gq,take_of_length_le->gw,drop_of_length_le->gx,takeWhile_prefix->gy,takeWhile_cons->gz,getElem_of_mem->gA,flatten_append->gB,filter_eq_self->gL,dropWhile_cons->gM,takeWhile_nil->gP,dropWhile_nil->gZ,getElem_take->hg,getElem_tail->hh,getElem_drop->hl
open Go.World.grownBy renaming trans->fC
open Go.Proofs.Tryz renaming results55->fE,prog->fJ,underlying41->fQ,ntmps55->gg,func55->gl,underlying31->hf
open Go.AllReady renaming cons->fG,nil->gd
open Go.IntWalk renaming i64_in->fK
open Option.some renaming injEq->fS
open Prod.mk renaming injEq->fU
open Go.Value.slice renaming injEq->fY
open UInt8 renaming toNat_lt->fZ,toNat_inj->gk
open Go.World renaming grownBy_alloc->gb
open Go.Op renaming bytesLess->gm
open Go.Proofs.Tryz
set_option maxRecDepth 100000
set_option maxHeartbeats 4000000
open Go.Value renaming int->gE,slice->ht,string->hA,bool->hE,agg->hF
open Go.IntKind renaming i64->ha
open Go.Obj renaming cells->hG
namespace Go.Proofs.YtlefmmhlpgmbjaaGreat
open Go.RowKit
variable {B0 pc i b0:Nat}{wr W W5 Wd w w':fR}{uv:Option Nat}{kc cs:List fL}{v v':fL}{z:Array fL}{S T:Nat->Prop}{n:Nd}{o po ko:Option Addr}{l gC:List Nd}{KC:List (List fL)}{x e:Kv}
def ux (B0:Nat) (uv:fL) (o:Option (Nd×List Int)) (w:fR) (e:Ending) (w':fR):Prop:=
 w.grownBy w' uv.ownBlock/\ ∃po pn pc ko kn kc pg uo un uc,e= .returned (.tuple #[hF #[ht po pn pc, ht ko kn kc, gE ha pg], ht uo un uc, hE o.isSome])/\
  ∀n u,o=fw (n,u)->w'.ownsRow B0 3 1 (ht uo un uc) u.length (jI u)/\((fq uo un uc).ownBlock=uv.ownBlock\/ ∀b,(fq uo un uc).ownBlock=fw b->w.heap.size<=b)/\
   jf (fun b=>w.heap.size<=b/\b<w'.heap.size/\(fq uo un uc).ownBlock≠fw b) w' [ht po pn pc, ht ko kn kc, gE ha pg] n
def zW (B0:Nat) (d:ik) (gI gJ:Int) (f:Nat):Prop:= ∀(page:Int) (used:List Int) (v:fL) (uo:Option Addr) (uc:Nat) (w:fR),ja (· <B0) w v d->B0<=w.heap.size->w.ownsRow B0 3 1 (ht uo used.length uc) used.length (jI used)->
 pj gI gJ used->(gJ - gI - 2).toNat<f+used.length->ny page->
 gj fJ 55 #[v, gE ha gI, gE ha gJ, gE ha page, ht uo used.length uc] w (ux B0 (ht uo used.length uc) (iH d gI gJ f page used) w)
structure nA (B0:Nat) (wr:fR) (uv:Option Nat) (kb:Nat) (bx:Array fL) (kc:List fL) (v:fL) (o:Option (Nd×List Int)) (W:fR):Prop where
 g:wr.grownBy W uv
 k1:wr.heap.size<=kb
 k2:Bx W kb bx 95
 res: ∀n u,o=fw (n,u)->W.ownsRow B0 3 1 v u.length (jI u)/\(v.ownBlock=uv\/ ∀b,v.ownBlock=fw b->wr.heap.size<=b)/\v.ownBlock≠fw kb/\jf (fun b=>wr.heap.size<=b/\b<W.heap.size/\b≠kb/\v.ownBlock≠fw b) W kc n
theorem nA.put {kb:Nat} {B C D f c1 c2:fL} {o:Option (Nd×List Int)} (h:nA B0 wr uv kb #[B,C,D] kc v o W):
  nA B0 wr uv kb #[f,c1,c2] kc v o (((W.setCell ⟨kb,0,fr⟩ f).setCell ⟨kb,1,fr⟩ c1).setCell ⟨kb,2,fr⟩ c2):=by
 have k:=h.k1;have j:fz wr.heap.size W (((W.setCell ⟨kb,0,fr⟩ f).setCell ⟨kb,1,fr⟩ c1).setCell ⟨kb,2,fr⟩ c2):=iT (iT (iT (fF _ _) k) k) k;have s: ∀c,c≠kb->(((W.setCell ⟨kb,0,fr⟩ f).setCell ⟨kb,1,fr⟩ c1).setCell ⟨kb,2,fr⟩ c2).heap[c]?=W.heap[c]?:=fun c b=>
  (fy _ ⟨kb,2,fr⟩ _ _ b).trans ((fy _ ⟨kb,1,fr⟩ _ _ b).trans (fy _ ⟨kb,0,fr⟩ _ _ b))
 refine⟨⟨j.os.trans h.g.os,j.tape.trans h.g.tape,j.output.trans h.g.output,jU h.g.size j.size,fun q p r=>(j.block q p).trans (h.g.block q p r)⟩,k,?_,fun n A e=>?_⟩;have:=((h.k2.set 0 f).set 1 c1).set 2 c2;simpa using this;obtain⟨t,u,m,y⟩:=h.res n A e;refine⟨oX (a:=⟨kb,2,fr⟩) (oX (a:=⟨kb,1,fr⟩) (oX (a:=⟨kb,0,fr⟩) t m _) m _) m _,u,m,y.same (fun c b=>s c b.2.2.1) fun c b=>⟨b.1,by simpa using b.2.1,b.2.2⟩⟩
theorem nA.late {o:Option (Nd×List Int)} (f:fz wr.heap.size wr W5) (g:W5.grownBy Wd uv)
  (m: ∀n u,o=fw (n,u)->Wd.ownsRow B0 3 1 v u.length (jI u)/\(v.ownBlock=uv\/ ∀b,v.ownBlock=fw b->W5.heap.size<=b)/\jf (fun b=>W5.heap.size<=b/\b<Wd.heap.size/\v.ownBlock≠fw b) Wd kc n):
  nA B0 wr uv Wd.heap.size z kc v o (Wd.alloc (hG z 95)):=by
 have h:=f.size;refine⟨((gY f (fu _) _).trans g).trans (gb _ _ _),jU h g.size,Bx.new _ _ _,fun n u e=>?_⟩;obtain⟨j,p,q⟩:=m n u e;refine⟨j.alloc _,p.imp id fun k b c=>jU h (k b c),fun e=>by have:=(j.lt _ e).2;omega,q.same (fun b c=>ho _ _ b c.2.1) fun b c=>⟨oM,oN,oM,c.2.2⟩⟩
theorem nA.early {o:Option (Nd×List Int)} (g:fz wr.heap.size wr W5) (k: ∀b,uv=fw b->b<wr.heap.size) (h:(W5.alloc (hG z 95)).grownBy Wd uv)
  (j: ∀n u,o=fw (n,u)->Wd.ownsRow B0 3 1 v u.length (jI u)/\(v.ownBlock=uv\/ ∀b,v.ownBlock=fw b->(W5.alloc (hG z 95)).heap.size<=b)/\jf (fun b=>(W5.alloc (hG z 95)).heap.size<=b/\b<Wd.heap.size/\v.ownBlock≠fw b) Wd kc n):
  nA B0 wr uv W5.heap.size z kc v o Wd:=by
 have q:=g.size;have p:(W5.alloc (hG z 95)).heap.size=W5.heap.size+1:=oC
 rw[p] at j;refine⟨((gY g (fu _) _).trans (gb _ _ _)).trans h,q,(Bx.new W5 z 95).grown h (fun e=>by have:=k _ e.symm;omega),fun n u e=>?_⟩;obtain⟨r,m,s⟩:=j n u e;refine⟨r,m.imp id fun c b f=>by have:=c b f;omega,fun e=>?_,s.same (fun b _=>rfl) fun b f=>⟨oM,f.2.1,oM,f.2.2⟩⟩;rcases m with c|c;have:=k _ (c.symm.trans e);omega;have:=c _ e;omega
theorem F9 {gI gJ:Int} {g:Int->List Int->Option (Nd×List Int)} (c: ∀p u n b,g p u=fw (n,b)->pj gI gJ u->pj gI gJ b/\u.length<=b.length):
  ∀{l:List Int} {u b:List Int} {f:List Nd},jL g l u=fw (f,b)->pj gI gJ u->pj gI gJ b/\u.length<=b.length
 | [],_,_,_,h,hu=>by simp only[jL,fS,fU] at h;obtain⟨-,rfl⟩:=h;exact⟨hu,fu _⟩
 | p::r,u,b,f,h,hu=>by rw[jL] at h;split at h;cases h;rename_i n A q;obtain⟨⟨y,B⟩,m,e⟩:=gv.1 h;simp only[fU] at e;obtain⟨rfl,rfl⟩:=e;obtain⟨j,s⟩:=c _ _ _ _ q hu;obtain⟨k,t⟩:=F9 c m j;exact⟨k,oM⟩
theorem zX {d:ik} {gI gJ:Int}: ∀(f:Nat) {page:Int} {used u:List Int} {n:Nd},iH d gI gJ f page used=fw (n,u)->pj gI gJ used->pj gI gJ u/\used.length<u.length
 | 0,_,_,_,_,h,_=>by cases h
 | f+1,page,used,u,n,h,hu=>by
  rw[iH] at h;split at h;cases h;rename_i p;have c:=hu.snoc (page:=page) oM oM fun m=>p (.inr (.inr m));split at h;split at h;cases h;split at h;cases h;split at h;simp only[fS,fU] at h;obtain⟨-,rfl⟩:=h;exact⟨c,oC⟩;cases h;split at h;cases h;split at h;cases h;rename_i gC t k;split at h;simp only[fS,fU] at h;obtain⟨-,rfl⟩:=h;obtain⟨g,b⟩:=F9 (fun r u n s j q=>by have:=zX f j q;exact⟨this.1,oM⟩) k c
  refine⟨g,?_⟩;rw[iI] at b;simp at b;omega;cases h
theorem wC:(Tryz.prog.info? 95).map (fun i=>(i.zero,i.size,i.bytes))=fw (fw (hF #[ht fr 0 0, ht fr 0 0, gE ha 0]),3,56):=oP
theorem zY {b b':Nat} {e p:TypeId} {m s:Nat} {n t:Nat} {xs u:List fL} (h:w.ownsRow b e m v n xs) (k:w.ownsRow b' p s v' t u) (r:e≠p): ∀g,v.ownBlock=fw g->v'.ownBlock≠fw g:=by
 intro g f j;rcases h.2 with⟨rfl,_⟩|⟨a,A,C,rfl,_,q,_⟩;simp[gp] at f;rcases k.2 with⟨rfl,_⟩|⟨y,B,D,rfl,_,c,_⟩;simp[gp] at j;simp[gp] at f j;subst f j;rw[q] at c;simp at c;exact r c.2
theorem Ga {j:Option Nat} (c:w.grownBy wr uv) (f:wr.grownBy W j) (p:j=uv\/ ∀b,j=fw b->w.heap.size<=b):w.grownBy W uv:=by
 refine⟨f.os.trans c.os,f.tape.trans c.tape,f.output.trans c.output,jU c.size f.size,fun h k m=>(f.block h (iU k c.size) fun e=>?_).trans (c.block h k m)⟩;rcases p with g|g;exact m (e.trans g);have:=g h e.symm;omega
theorem Nb {d:ik} {gI gJ:Int}: ∀{f:Nat} {page:Int} {used u:List Int} {n:Nd},iH d gI gJ f page used=fw (n,u)->n.page=page/\gI+2<=page/\page<gJ
 | 0,_,_,_,_,h=>by cases h
 | f+1,page,used,u,n,h=>by rw[iH] at h;split at h;cases h;rename_i b;refine⟨?_,oM,oM⟩;split at h;rotate_left;all_goals split at h;cases h;split at h;cases h;split at h;simp only[fS,fU] at h;obtain⟨rfl,-⟩:=h;rfl;cases h
section
variable (B0:Nat) (d:ik) (gI gJ:Int)
theorem Nc:zW B0 d gI gJ 0:=by
 intro p c v r q w j h k b f m
 by_cases g:gI+2<=gJ
 have:=b.len g;omega;have:c=[]:=by
  cases c with
  | nil=>rfl
  | cons x l=>have:=b.2 x oC;omega
 subst this;simp at f
theorem Nf (f:Nat) (dI:zW B0 d gI gJ f) (bB:iW d=0) (eb:jE d gI gJ=fI) (eV:f<=1000000):zW B0 d gI gJ (f+1):=by
 intro page used v ao ax w ct bx cw aC ea ei;obtain⟨cZ,eM,eN,eO,eP⟩:=ra eb;have eY:=pd (nY bB).1;obtain⟨eH,cv⟩:=nM (ux B0 (ht ao used.length ax) (iH d gI gJ (f+1) page used) w);rw[cv];have aD:=gF cv;have cQ:=gF ct;have cS:=gF cw;have dT:=gF dI;obtain⟨po,pc,ar,aq,rfl⟩:=iF.agg (ct.mono fun b g=>iU g bx);have cJ:jk ao used.length ax/\lp (fun b=>B0<=b/\b<w.heap.size) w ao used:=by
  obtain⟨b9,c',e,af,cH,-⟩:=nC cw;obtain⟨rfl,rfl⟩:ao=b9/\ax=c':=by simpa using e
  exact⟨af,lp.js cH⟩
 have b6:used.length<=1000000:=by
  by_cases ed:gI+2<=gJ
  have:=aC.len ed;omega;cases used with
  | nil=>simp
  | cons x l=>have:=aC.2 x oC;omega
 have cB: ∀W,fz w.heap.size w W->gj fJ 94 #[ht ao used.length ax, gE ha page] W fun e w'=>e= .returned (hE (decide (page∈used)))/\w'=W:=fun W j=>
  F5 ao ax used page W (S:=fun b=>B0<=b/\b<w.heap.size) cJ.1 b6 (cJ.2.same fun b g=>j.block b g.2)
 obtain⟨d0,bA⟩:=nM (decide (page∈used));rw[bA] at cB;have cl:=gF cB;have cV:=gF aC;have eG:=gF b6;obtain⟨ab,bI⟩:=nM used.length;rw[bI] at cl cS aD ea;have cU:=gF bI;rw[bI] at b6 |-;clear cv ct cw dI aC cJ cB bI;obtain⟨m,aL⟩:=nM w.heap.size;cases c0:decide (page<gI+2);rotate_left;.
  have c1:=of_decide_eq_true c0;have ac:Hid (iH d gI gJ (f+1) page used=fr):=gF (by rw[iH,if_pos (.inl c1)]);go_enter gl,gg;go_upto_region 1 with fail
  obtain⟨W0,O⟩:=nM ((w.alloc (hG #[gE ha 512, ht po d.gG.length pc, ht ar d.gH.length aq, gE ha d.left] 25)).alloc (hG #[ht fr 0 0, ht fr 0 0, gE ha 0] 95));rw[O];have au:fz w.heap.size w W0:=by subst O;exact(Below.one w _).alloc oC _
  have bL:Bx W0 m #[gE ha 512, ht po d.gG.length pc, ht ar d.gH.length aq, gE ha d.left] 25:=by subst O aL;exact(Bx.new w _ _).alloc _
  have aF:Bx W0 (m+1) #[ht fr 0 0, ht fr 0 0, gE ha 0] 95:=by subst O aL;exact Bx.ir _ _ _ _ oC
  clear O;have az:=gF au;obtain⟨G,aa,Z⟩:=aF.c3;clear au;go_wp2_with fail;refine fO (v:= .tuple #[hF #[ht fr 0 0, ht fr 0 0, gE ha 0], ht fr 0 0, hE ft]) (by simp[gf,fE,go_sem,G]) rfl ?_;rw[<-aD.o];unfold ux;rw[ac.o];exact⟨gY (iT (iT (iT az.o oM) oM) oM) (fu _) _,_,_,_,_,_,_,_,_,_,_,rfl,fun n p g=>by cases g⟩
 have c1:=of_decide_eq_false c0;cases c3:decide (gJ<=page);rotate_left;focus
  have c4:=of_decide_eq_true c3;have ac:Hid (iH d gI gJ (f+1) page used=fr):=gF (by rw[iH,if_pos (.inr (.inl c4))]);go_enter gl,gg;go_upto_region 1 with fail
  obtain⟨W0,O⟩:=nM ((w.alloc (hG #[gE ha 512, ht po d.gG.length pc, ht ar d.gH.length aq, gE ha d.left] 25)).alloc (hG #[ht fr 0 0, ht fr 0 0, gE ha 0] 95));rw[O];have au:fz w.heap.size w W0:=by subst O;exact(Below.one w _).alloc oC _
  have bL:Bx W0 m #[gE ha 512, ht po d.gG.length pc, ht ar d.gH.length aq, gE ha d.left] 25:=by subst O aL;exact(Bx.new w _ _).alloc _
  have aF:Bx W0 (m+1) #[ht fr 0 0, ht fr 0 0, gE ha 0] 95:=by subst O aL;exact Bx.ir _ _ _ _ oC
  clear O;have az:=gF au;obtain⟨G,aa,Z⟩:=aF.c3;clear au;go_wp2_with fail
 rotate_left;focus
  have c4:=of_decide_eq_false c3;cases d0
  case' true=>
   have aX:=of_decide_eq_true bA;have ac:Hid (iH d gI gJ (f+1) page used=fr):=gF (by rw[iH,if_pos (.inr (.inr aX))]);clear bA aX;go_enter gl,gg;go_upto_region 1 with fail
   obtain⟨W0,O⟩:=nM ((w.alloc (hG #[gE ha 512, ht po d.gG.length pc, ht ar d.gH.length aq, gE ha d.left] 25)).alloc (hG #[ht fr 0 0, ht fr 0 0, gE ha 0] 95));rw[O];have au:fz w.heap.size w W0:=by subst O;exact(Below.one w _).alloc oC _
   have bL:Bx W0 m #[gE ha 512, ht po d.gG.length pc, ht ar d.gH.length aq, gE ha d.left] 25:=by subst O aL;exact(Bx.new w _ _).alloc _
   have aF:Bx W0 (m+1) #[ht fr 0 0, ht fr 0 0, gE ha 0] 95:=by subst O aL;exact Bx.ir _ _ _ _ oC
   clear O;have az:=gF au;obtain⟨G,aa,Z⟩:=aF.c3;clear au;go_wp2_with fail;refine(cl.o _ az.o).mono ?_;rintro e W2 ⟨rfl,rfl⟩;go_wp2
  rotate_left
  case' false=>
   have aX:=of_decide_eq_false bA;clear bA;have bf:=wS bB cZ (i:=page) oM oM;have b5:=wR bB (i:=page) oM oM;have e1:=cV.o.len oM;have dy:=cV.o.snoc (page:=page) oM oM aX;obtain⟨r,bX⟩:=nM (gQ d page);rw[bX] at bf b5;obtain⟨V,af⟩:=nM (bs r);rw[af] at b5;have dE:V.size=512:=by rw[<-af,lM,bf]
   obtain⟨et,a2,dF,dG,dH⟩:=info_parts A9;have bS:=gF (gK a2 (gK dF (gK dG dH)));clear a2 dF dG dH;have da:iH d gI gJ (f+1) page used=(if r.getD 0 0=76 then
    if (r.getD 1 0).toNat<1\/3<(r.getD 1 0).toNat then fr
    else match jm (r.getD 1 0).toNat (r.drop 2) with
     | none=>fr
     | some ps=>if jg (j5 ps)=r then fw (.mk ps [] page,used++[page]) else fr
    else if r.getD 0 0≠78\/(r.getD 1 0).toNat<2\/8<(r.getD 1 0).toNat then fr
    else match jL (iH d gI gJ f) (mg (r.drop 2) (r.getD 1 0).toNat) (used++[page]) with
     | none=>fr
     | some (gC,p)=>if jg (kd gC)=r then fw (.mk [] gC page,p) else fr):=by
    rw[iH,if_neg fun g=>g.elim (fun g=>oM) fun g=>g.elim (fun g=>oM) aX,bX];rfl
   have a':=gF da;have a3: ∀(i:Nat) (g:i<V.size),V[i].toNat=(r.getD i 0).toNat:=fun i g=>by
    subst af;have al:i<r.length:=oM
    rw[vQ _ _ al,fT,fA al];rfl
   obtain⟨a0,bY⟩:=nM ((r.getD 0 0).toNat);obtain⟨a1,bZ⟩:=nM ((r.getD 1 0).toNat);have eL:(V[0]' oM).toNat=a0:=by rw[a3,bY]
   have cX:(V[1]' oM).toNat=a1:=by rw[a3,bZ]
   have b0:a0<256:=by rw[<-bY];exact fZ _
   have dZ:a1<256:=by rw[<-bZ];exact fZ _
   have br:=gF bY;have bR:=gF bZ;have dj: ∀W,gj fJ 95 #[hA V] W (Ce (kV r) W):=fun W=>af▸M7 r W bf;have dU:=gF dj;clear da a3 bY bZ dj;have cR:=gF (gK bX (gK af bf));have dX:=gF dy;have eF:=gF aX;clear dy aX bX af bf;rw[cZ] at cQ;have dx: ∀W ce,iF W ce d->gj fJ 92 #[ce, gE ha page] W fun e w'=>e= .returned (.tuple #[hA V, gE ha 0])/\fz W.heap.size W w':=fun W ce g=>by have:=Aw d ce page W g;rw[b5] at this;exact this
   have dW:=gF dx;clear dx b5;have bI:ab<=1000000:=b6;go_enter gl,gg;go_upto_region 1 with fail
   obtain⟨W0,O⟩:=nM ((w.alloc (hG #[gE ha 512, ht po d.gG.length pc, ht ar d.gH.length aq, gE ha d.left] 25)).alloc (hG #[ht fr 0 0, ht fr 0 0, gE ha 0] 95));rw[O];have au:fz w.heap.size w W0:=by subst O;exact(Below.one w _).alloc oC _
   have bL:Bx W0 m #[gE ha 512, ht po d.gG.length pc, ht ar d.gH.length aq, gE ha d.left] 25:=by subst O aL;exact(Bx.new w _ _).alloc _
   have aF:Bx W0 (m+1) #[ht fr 0 0, ht fr 0 0, gE ha 0] 95:=by subst O aL;exact Bx.ir _ _ _ _ oC
   clear O;have az:=gF au;obtain⟨G,aa,Z⟩:=aF.c3;clear au;go_wp2_with fail;refine(cl.o _ az.o).mono ?_;rintro e W2 ⟨rfl,rfl⟩;go_upto_region 3 with fail
   have dE:=az.o.size;have du:=nD cS.o az.o;have dv:=du.alloc (.cells #[.int .i64 page] 3);have dK:=bL.alloc (.cells #[.int .i64 page] 3);have dO:=aF.alloc (.cells #[.int .i64 page] 3);have dQ:Hid (∀p∈[Value.int .i64 page],p.oneCell'=fI):=gF (by intro p aC;simp at aC;subst aC;rfl);have ci:=gF (Bx.new W2 #[.int .i64 page] 3);have cq:fz w.heap.size w (W2.alloc (.cells #[.int .i64 page] 3)):=az.o.alloc dE _;have c6:ja (· <B0) (W2.alloc (.cells #[.int .i64 page] 3)) _ d:=cQ.o.same (Same.ic cq fun b g=>iU g bx);have t:=gF (gK dK (gK dO (gK dv (gK c6 cq))));clear G aa Z bL aF du dv dK dO c6 cq;go_wp2_with (at_builtin;refine wpList_append_own_at _ rfl _ _ 31 rfl B0 3 et _ 1 8 hf bS.o.1 bS.o.2.1 bS.o.2.2.1 bS.o.2.2.2 rfl oF (.slice ao ab ax) ab (jI used) rfl t.o.2.2.1 ⟨W2.heap.size,0,fr⟩ 1 1 [.int .i64 page] rfl rfl (ua ci.o) dQ.o (by unfold ga;omega) oM oN ?_;intro fj cN cF bC _ dB;obtain⟨bh,ba,rfl⟩:=pD cF;have cO:=t.o.1.grown bC fun e=>nu t.o.2.2.1 t.o.1 oF e.symm;obtain⟨ak,an⟩:=cO.c2);have cz:w.grownBy cN (fq ao ab ax).ownBlock:=(gY t.o.2.2.2.2 (fu _) _).trans bC;have cu:=t.o.2.2.2.1.same (w':=cN) fun b (j:b<B0)=>bC.block b oN fun e=>by have:=(t.o.2.2.1.lt b e.symm).1;omega
   have cr:B0<=cN.heap.size:=jU bx cz.size;refine(dW.o _ _ (ja.mono cu fun b (j:b<B0)=>iU j cr)).mono ?_;rintro e aI ⟨rfl,be⟩;have dN:=t.o.2.1.grown bC fun e=>nu t.o.2.2.1 t.o.2.1 oF e.symm;have dC:(fq bh (ab+1) ba).ownBlock=(fq ao ab ax).ownBlock\/ ∀b,(fq bh (ab+1) ba).ownBlock=fw b->w.heap.size<=b:=by rcases dB with e|e;exact .inl e;refine .inr fun b j=>?_;rw[e] at j;simp at j;omega
   have D:=gF (gK (cO.gD be) (gK (dN.gD be) (gK (nD cF be) (gK (cu.same (Same.ic be fun b g=>iU g cr)) (gK (fC cz (gY be (fu _) _)) dC)))));clear cz cu cr dN dC be cO ak an cF bC dB;obtain⟨G,aa,Z⟩:=D.o.2.1.c3;obtain⟨ak,an⟩:=D.o.1.c2;go_upto_region 5 with fail
   cases b':decide (a0=76);rotate_left;.
    have ca:=of_decide_eq_true b';have aJ:r.getD 0 0=76:=gk.1 (by rw[br.o,ca];rfl);have ac:Hid (iH d gI gJ (f+1) page used=(kV r).map fun ps=>(.mk ps [] page,used++[page])):=gF (by
     rw[a'.o,if_pos aJ];unfold kV
     by_cases g:(r.getD 1 0).toNat<1\/3<(r.getD 1 0).toNat
     . rw[if_pos g,if_pos g];rfl
     .
      rw[if_neg g,if_neg g];cases jm (r.getD 1 0).toNat (r.drop 2) with
      | none=>rfl
      | some ps=>simp only;split<;>rfl)
    have eC:((a0:Int)==76)=true:=oN
    clear b' ca aJ;go_wp2_with fail;refine(dU.o _).mono ?_;rintro e W5 ⟨aO,bl,bJ,bk,rfl,dm⟩;obtain⟨d1,cy⟩:=nM ((kV r).isSome);rw[cy];have cP:=D.o.2.1.gD aO;have a7:=gF (gK aO (gK dm (gK cy cP)));clear G aa Z ak an;obtain⟨G,aa,Z⟩:=cP.c3;clear aO dm cy cP;go_wp2;obtain⟨Wf,aj⟩:=nM ((((W5.setCell ⟨m+1,0,fr⟩ (ht bl bJ bk)).setCell ⟨m+1,1,fr⟩ (ht fr 0 0)).setCell ⟨m+1,2,fr⟩ (gE ha page)).alloc (hG #[ht bl bJ bk, ht fr 0 0, gE ha page] 95));rw[aj];have e4:=a7.o.1.size;have e3:=D.o.2.2.2.2.1.size;have eW:=D.o.2.1.lt;have bP:Bx Wf (m+1) #[ht bl bJ bk, ht fr 0 0, gE ha page] 95:=by rw[<-aj];refine Bx.alloc ?_ _;have:=((a7.o.2.2.2.set 0 (ht bl bJ bk)).set 1 (ht fr 0 0)).set 2 (gE ha page);simpa using this
    have aB:(fq bh (ab+1) ba).ownBlock≠fw (m+1):=nu D.o.2.2.1 D.o.2.1 oF;have bn:Wf.ownsRow B0 3 1 (ht bh (ab+1) ba) (ab+1) (jI used++[gE ha page]):=by rw[<-aj];exact(oX (a:=⟨m+1,2,fr⟩) (oX (a:=⟨m+1,1,fr⟩) (oX (a:=⟨m+1,0,fr⟩) (nD D.o.2.2.1 a7.o.1) aB _) aB _) aB _).alloc _
    have q:fz w.heap.size W5 Wf:=by rw[<-aj];exact(iT (iT (iT (fF _ _) oM) oM) oM).alloc oN _
    have bo: ∀b,aI.heap.size<=b/\b<W5.heap.size->Wf.heap[b]?=W5.heap[b]?:=by intro b j;rw[<-aj];refine(ho _ _ b oN).trans ?_;exact(((Same.refl (fun x=>x=b) W5).set (a:=⟨m+1,0,fr⟩) (by show¬m+1=b;omega) _).set (a:=⟨m+1,1,fr⟩) (by show¬m+1=b;omega) _).set (a:=⟨m+1,2,fr⟩) (by show¬m+1=b;omega) _ b rfl
    have co:=bP.cell;refine fO (v:= .tuple #[hF #[ht bl bJ bk, ht fr 0 0, gE ha page], ht bh (ab+1) ba, hE d1]) (by simp[gf,fE,go_sem,co]) rfl ?_;rw[<-aD.o,ac.o];have s:=fC D.o.2.2.2.2.1 (gY a7.o.1 (fu _) _);refine⟨⟨q.os.trans s.os,q.tape.trans s.tape,q.output.trans s.output,jU s.size q.size,fun h U ae=>(q.block h U).trans (s.block h U ae)⟩,_,_,_,_,_,_,_,_,_,_,by rw[<-a7.o.2.2.1,Option.isSome_map],?_⟩;intro n p g;obtain⟨ps,es,d9⟩:=gv.1 g;cases d9;have bu:(used++[page]).length=ab+1:=by rw[iI,cU.o];rfl
    have d4:jI (used++[page])=jI used++[gE ha page]:=by simp[jI]
    refine⟨by rw[bu,d4];exact bn,D.o.2.2.2.2.2,?_⟩;have ae:=a7.o.2.1 ps es;obtain⟨fd,fc,e8,e7,e⟩:=ae.cells;simp only[il,Nd.ps,Nd.gC,Nd.page,gn,List.cons.injEq,fY,and_true,true_and] at e;obtain⟨⟨rfl,rfl,rfl⟩,rfl,rfl⟩:=e;exact jf.same bo (fun b j=>⟨oM,by have:=q.size;omega,fun e=>by have:=(D.o.2.2.1.lt b e).2;omega⟩) (jf.page (po:=bl) (pc:=bk) (ko:=fr) (kc:=0) (ps:=ps) (gC:=[]) (page:=0) ae page)
   have ca:=of_decide_eq_false b';have aJ: ¬r.getD 0 0=76:=fun g=>ca (by rw[<-br.o,g];rfl);have eC:((a0:Int)==76)=false:=oN
   clear b';cases cb:decide (a0=78);.
    have cc:=of_decide_eq_false cb;have ac:Hid (iH d gI gJ (f+1) page used=fr):=gF (by
     rw[a'.o,if_neg aJ,if_pos (.inl fun g=>cc (by rw[<-br.o,g];rfl))])
    have eD:((a0:Int)!=78)=true:=oN
    clear cb;go_wp2;refine fO (v:= .tuple #[hF #[ht fr 0 0, ht fr 0 0, gE ha 0], ht fr 0 0, hE ft]) (by simp[gf,fE,go_sem,G]) rfl ?_;rw[<-aD.o];unfold ux;rw[ac.o];have q:=iT (b:=m+1) (k:=2) (v:= gE ha 0) (iT (b:=m+1) (k:=1) (v:= ht fr 0 0) (iT (b:=m+1) (k:=0) (v:= ht fr 0 0) (fF w.heap.size aI) oM) oM) oM;have s:=D.o.2.2.2.2.1;exact⟨⟨q.os.trans s.os,q.tape.trans s.tape,q.output.trans s.output,jU s.size q.size,fun h U ae=>(q.block h U).trans (s.block h U ae)⟩,_,_,_,_,_,_,_,_,_,_,rfl,fun n p g=>by cases g⟩
   have cc:=of_decide_eq_true cb;have eD:((a0:Int)!=78)=false:=oN
   clear cb
   by_cases cL:a1<2
   .
    have ac:Hid (iH d gI gJ (f+1) page used=fr):=gF (by
     rw[a'.o,if_neg aJ,bR.o,if_pos (.inr (.inl cL))])
    go_wp2;refine fO (v:= .tuple #[hF #[ht fr 0 0, ht fr 0 0, gE ha 0], ht fr 0 0, hE ft]) (by simp[gf,fE,go_sem,G]) rfl ?_;rw[<-aD.o];unfold ux;rw[ac.o];have q:=iT (b:=m+1) (k:=2) (v:= gE ha 0) (iT (b:=m+1) (k:=1) (v:= ht fr 0 0) (iT (b:=m+1) (k:=0) (v:= ht fr 0 0) (fF w.heap.size aI) oM) oM) oM;have s:=D.o.2.2.2.2.1;exact⟨⟨q.os.trans s.os,q.tape.trans s.tape,q.output.trans s.output,jU s.size q.size,fun h U ae=>(q.block h U).trans (s.block h U ae)⟩,_,_,_,_,_,_,_,_,_,_,rfl,fun n p g=>by cases g⟩
   by_cases cM:8<a1
   .
    have ac:Hid (iH d gI gJ (f+1) page used=fr):=gF (by
     rw[a'.o,if_neg aJ,bR.o,if_pos (.inr (.inr cM))])
    go_wp2;refine fO (v:= .tuple #[hF #[ht fr 0 0, ht fr 0 0, gE ha 0], ht fr 0 0, hE ft]) (by simp[gf,fE,go_sem,G]) rfl ?_;rw[<-aD.o];unfold ux;rw[ac.o];have q:=iT (b:=m+1) (k:=2) (v:= gE ha 0) (iT (b:=m+1) (k:=1) (v:= ht fr 0 0) (iT (b:=m+1) (k:=0) (v:= ht fr 0 0) (fF w.heap.size aI) oM) oM) oM;have s:=D.o.2.2.2.2.1;exact⟨⟨q.os.trans s.os,q.tape.trans s.tape,q.output.trans s.output,jU s.size q.size,fun h U ae=>(q.block h U).trans (s.block h U ae)⟩,_,_,_,_,_,_,_,_,_,_,rfl,fun n p g=>by cases g⟩
   go_upto_region 13 with fail
   obtain⟨M,c9⟩:=nM aI.heap.size;rw[c9];have a9:=gF c9;have eB:=D.o.1.alloc (hG #[ht fr 0 0, ht fr 0 0, gE ha page] 95);have bu:(used++[page]).length=ab+1:=by rw[iI,cU.o];rfl
   go_loopw [4,18] (fun uv i wr=> ∃(h:Nat) (u:List Nd) (KC:List (List fL)) (ko:Option Addr) (kc:Nat) (p:List Int) (C:Option Addr) (A:Nat),h<=a1/\i= gE ha h/\uv= ht C p.length A/\
    Hid (jL (iH d gI gJ f) (mg (r.drop 2) a1) (used++[page])=(jL (iH d gI gJ f) ((mg (r.drop 2) a1).drop h) p).map (fun x=>(u++x.1,x.2))/\u.length=h/\KC.length=h)/\pj gI gJ p/\ab+1<=p.length/\
    Bx wr m #[gE ha 512, ht po d.gG.length pc, ht ar d.gH.length aq, gE ha d.left] 25/\Bx wr (m+1) #[ht fr 0 0, ht fr 0 0, gE ha 0] 95/\
    Bx wr M #[ht fr 0 0, ht ko h kc, gE ha page] 95/\wr.ownsRow (M+1) 95 3 (ht ko h kc) h KC.flatten/\wr.ownsRow B0 3 1 (ht C p.length A) p.length (jI p)/\
    w.grownBy wr (fq ao ab ax).ownBlock/\((fq C p.length A).ownBlock=(fq ao ab ax).ownBlock\/ ∀b,(fq C p.length A).ownBlock=fw b->w.heap.size<=b)/\M<wr.heap.size/\
    Hid (ja (· <B0) wr (hF #[gE ha 512, ht po d.gG.length pc, ht ar d.gH.length aq, gE ha d.left]) d/\ ∀(i:Nat) (g:i<KC.length) (al:i<u.length),jf (fun b=>w.heap.size<=b/\b<wr.heap.size/\b≠m/\b≠m+1/\b≠M/\(fq ko h kc).ownBlock≠fw b/\(fq C p.length A).ownBlock≠fw b) wr (KC[i]'g) (u[i]'al))) (fun _ i _=>a1 - (intOf i).toNat)
   case atStart=>refine⟨0,[],[],fr,0,used++[page],bh,ba,oM,rfl,by rw[bu],gF ⟨oC,rfl,rfl⟩,dX.o,oM,eB,D.o.2.1.alloc _,?_,World.ownsRow_nil _ _ _ _,?_,?_,?_,?_,?_⟩;rw[<-a9.o];exact Bx.new aI _ _;rw[bu];exact(by simpa[jI] using D.o.2.2.1.alloc (hG #[ht fr 0 0, ht fr 0 0, gE ha page] 95));exact fC D.o.2.2.2.2.1 (gb aI _ _);rw[bu];exact D.o.2.2.2.2.2;rw[<-a9.o];simp;refine gF ⟨D.o.2.2.2.1.same (Same.ic (B:=aI.heap.size) ((fF _ _).alloc (fu _) _) fun b g=>iU g (jU bx D.o.2.2.2.2.1.size)),fun i g=>by simp at g⟩
   case round=>
    obtain⟨h,u,KC,ko,kc,p,C,A,U,rfl,rfl,ap,dz,e2,bm,bN,bM,hK,aA,aY,b7,eU,bQ⟩:=hrel;clear G aa Z ak an
    by_cases dk:h<a1
    .
     obtain⟨ak,an⟩:=bm.c2;obtain⟨Y,ek⟩:=nM (2 * h);obtain⟨p1,b3⟩:=nM ((r.getD (Y+2) 0).toNat);obtain⟨p2,b4⟩:=nM ((r.getD (Y+3) 0).toNat);have dZ:p1<256:=by rw[<-b3];exact fZ _
     have eI:p2<256:=by rw[<-b4];exact fZ _
     have el:Y+3<V.size:=oM
     have em:Y+2<V.size:=oM
     have a3: ∀(i:Nat) (g:i<V.size),V[i].toNat=(r.getD i 0).toNat:=fun i g=>by
      obtain⟨-,af,bf⟩:=cR.o;subst af;have al:i<r.length:=oM
      rw[vQ _ _ al,fT,fA al];rfl
     have eu:(V[Y+2]'em).toNat=p1:=by rw[a3,b3]
     have ev:(V[Y+3]'el).toNat=p2:=by rw[a3,b4]
     have dw:mI (r.drop 2) h=((p1 * 256+p2:Nat):Int):=by unfold mI;rw[<-b3, <-b4, <-ek];simp only[fT,List.getElem?_drop];rw[show 2+2 * h=2 * h+2 by omega,show 2+(2 * h+1)=2 * h+3 by omega]
     have cn:=gF dw;obtain⟨bj,ej⟩: ∃n:Nat,p1 * 256+p2=n:=⟨_,rfl⟩;rw[ej] at cn;have eX:bj<65536:=oM
     have fk:IntKind.i64.wrap (2 * (h:Int))=(Y:Int):=by rw[fK _ oM];omega
     have fl:IntKind.i64.wrap (2+(Y:Int))=(Y:Int)+2:=by rw[fK _ oM];omega
     have fg:IntKind.i64.wrap (3+(Y:Int))=(Y:Int)+3:=by rw[fK _ oM];omega
     have eA:IntKind.i64.wrap ((p1:Int) * 256)=(p1:Int) * 256:=by rw[fK _ oM]
     have fi:IntKind.i64.wrap ((p1:Int) * 256+(p2:Int))=(bj:Int):=by rw[fK _ oM];omega
     have fm:IntKind.i64.wrap (p1:Int)=(p1:Int):=fK _ oM;have fh:IntKind.i64.wrap (p2:Int)=(p2:Int):=fK _ oM;have e5: ∀g:((Y:Int)+2).toNat<V.size,V[((Y:Int)+2).toNat].toNat=p1:=fun g=>by rw[<-eu];congr 1
     have e6: ∀g:((Y:Int)+3).toNat<V.size,V[((Y:Int)+3).toNat].toNat=p2:=fun g=>by rw[<-ev];congr 1
     clear a3 dw b3 b4;obtain⟨ak,an⟩:=bm.c2;go_upto_region 15 with fail
     refine qm #[ft,ft,ft,ft,ft,ft,ft,ft,ft,ft,ft,ft,ft,ft,ft,ft,ft,ft,ft,ft,ft,ft,ft,ft,ft,ft,ft] 27 oP oO rfl ?_;have aO:=(fF wr.heap.size wr).drew;obtain⟨W5,db⟩:=nM wr.drew;rw[db] at aO |-;have dJ:=bm.gD aO;clear ak an;obtain⟨ak,an⟩:=dJ.c2;have dA: ∀b,(fq C p.length A).ownBlock=fw b->b<wr.heap.size:=fun b g=>(aA.lt b g).2;have ec:(gJ - gI - 2).toNat<f+p.length:=oM
     have c5:B0<=wr.heap.size:=jU bx aY.size;obtain⟨aT,cE⟩:=nM (iH d gI gJ f bj p);have cm:=gF cE;have de: ∀W,fz wr.heap.size wr W->gj fJ 55 #[hF #[gE ha 512, ht po d.gG.length pc, ht ar d.gH.length aq, gE ha d.left], gE ha gI, gE ha gJ, gE ha bj, ht C p.length A] W (ux B0 (ht C p.length A) aT W):=fun W j=>cE▸
      dT.o bj p _ C A W (bQ.o.1.same (Same.ic j fun b g=>iU g c5)) (jU c5 j.size) (nD aA j) dz ec ⟨oM,oM⟩
     have ck:=gF de;have aG:=gF aO;clear de aO db cE;refine fs (i:=1) (v:=(gE ha gI)) rfl oP oP oP (fun _ _ _ g=>g) (fx ⟨oO,fun w=>by first|rfl| (go_simp;try with_reducible rfl)⟩) ?_;simp only[ki,fv,gU];refine fs (i:=2) (v:=(gE ha gJ)) rfl oP oP oP (fun _ _ _ g=>g) (fx ⟨oO,fun w=>by first|rfl| (go_simp;try with_reducible rfl)⟩) ?_;simp only[ki,fv,gU];refine fs (i:=3) (v:=(hA V)) rfl oP oP oP (fun _ _ _ g=>g) (fx ⟨oO,fun w=>by first|rfl| (go_simp;try with_reducible rfl)⟩) ?_;simp only[ki,fv,gU];refine fs (i:=4) (v:=(gE ha h)) rfl oP oP oP (fun _ _ _ g=>g) (fx ⟨oO,fun w=>by first|rfl| (go_simp;try with_reducible rfl)⟩) ?_;simp only[ki,fv,gU];refine fs (i:=5) (v:=(gE ha Y)) rfl oP oP oP (fun _ _ _ g=>g) (fx ⟨oO,fun w=>by go_simp;skip⟩) ?_;simp only[ki,fv,gU];refine fs (i:=6) (v:=(gE ha ((Y:Int)+2))) rfl oP oP oP (fun _ _ _ g=>g) (fx ⟨oO,fun w=>by go_simp;skip⟩) ?_;simp only[ki,fv,gU];refine fs (i:=7) (v:=(.int .u8 p1)) rfl oP oP oP (fun _ _ _ g=>g) (fx ⟨oO,fun w=>by go_simp;(intro g;exact absurd (g oM) oM)⟩) ?_;simp only[ki,fv,gU];refine fs (i:=8) (v:=(gE ha p1)) rfl oP oP oP (fun _ _ _ g=>g) (fx ⟨oO,fun w=>by go_simp;skip⟩) ?_;simp only[ki,fv,gU];refine fs (i:=9) (v:=(gE ha ((p1:Int) * 256))) rfl oP oP oP (fun _ _ _ g=>g) (fx ⟨oO,fun w=>by go_simp;skip⟩) ?_;simp only[ki,fv,gU];refine fs (i:=10) (v:=(hA V)) rfl oP oP oP (fun _ _ _ g=>g) (fx ⟨oO,fun w=>by first|rfl| (go_simp;try with_reducible rfl)⟩) ?_;simp only[ki,fv,gU];refine fs (i:=11) (v:=(gE ha h)) rfl oP oP oP (fun _ _ _ g=>g) (fx ⟨oO,fun w=>by first|rfl| (go_simp;try with_reducible rfl)⟩) ?_;simp only[ki,fv,gU];refine fs (i:=12) (v:=(gE ha Y)) rfl oP oP oP (fun _ _ _ g=>g) (fx ⟨oO,fun w=>by go_simp;skip⟩) ?_;simp only[ki,fv,gU];refine fs (i:=13) (v:=(gE ha ((Y:Int)+3))) rfl oP oP oP (fun _ _ _ g=>g) (fx ⟨oO,fun w=>by go_simp;skip⟩) ?_;simp only[ki,fv,gU];refine fs (i:=14) (v:=(.int .u8 p2)) rfl oP oP oP (fun _ _ _ g=>g) (fx ⟨oO,fun w=>by go_simp;(intro g;exact absurd (g oM) oM)⟩) ?_;simp only[ki,fv,gU];refine fs (i:=15) (v:=(gE ha p2)) rfl oP oP oP (fun _ _ _ g=>g) (fx ⟨oO,fun w=>by go_simp;skip⟩) ?_;simp only[ki,fv,gU];refine fs (i:=16) (v:=(gE ha bj)) rfl oP oP oP (fun _ _ _ g=>g) (fx ⟨oO,fun w=>by go_simp;skip⟩) ?_;simp only[ki,fv,gU];refine fs (i:=17) (v:=(ht C p.length A)) rfl oP oP oP (fun _ _ _ g=>g) (fx ⟨oO,fun w=>by first|rfl| (go_simp;try with_reducible rfl)⟩) ?_;simp only[ki,fv,gU];refine gu (rs:=[0,23]) oP oC ?_;refine fG rfl (fun K hK=>?_) (fG rfl (fun K hK=>?_) gd);focus
      go_simp;refine hK _ _ ?_;clear hK K;simp only[fB,fP];refine gu (rs:=[18,23]) oP oC ?_;refine fG rfl (fun K hK=>?_) (fG rfl (fun K hK=>?_) gd);focus
       go_simp;refine(ck.o _ aG.o).mono ?_;rintro e W7 ⟨aP,H,J,E,I,L,F,N,ai,aU,ah,rfl,aS⟩;refine hK _ _ ?_;clear hK K;simp only[gU];refine fs (i:=19) (v:=?_) rfl oP oP oP (fun _ _ _ g=>g) (fx ⟨oO,?_⟩) ?_;rotate_left;. intro w;go_simp;try with_reducible rfl
       simp only[fv,gU];refine fs (i:=20) (v:=?_) rfl oP oP oP (fun _ _ _ g=>g) (fx ⟨oO,?_⟩) ?_;rotate_left;. intro w;go_simp;try with_reducible rfl
       simp only[fv,gU];refine fs (i:=21) (v:=?_) rfl oP oP oP (fun _ _ _ g=>g) (fx ⟨oO,?_⟩) ?_;rotate_left;. intro w;go_simp;try with_reducible rfl
       simp only[fv,gU];refine fs (i:=22) (v:=?_) rfl oP oP oP (fun _ _ _ g=>g) (fx ⟨oO,?_⟩) ?_;rotate_left;. intro w;go_simp;try with_reducible rfl
       simp only[fv,gU];refine iG 23 fun K hK=>?_;go_simp;refine hK _ _ ?_;clear hK K;simp only[gU];have R:nA B0 wr (fq C p.length A).ownBlock W7.heap.size #[ht fr 0 0, ht fr 0 0, gE ha 0] [ht H J E, ht I L F, gE ha N] (ht ai aU ah) aT _:=nA.late aG.o aP aS;obtain⟨bt,dc⟩:=nM (W7.alloc (hG #[ht fr 0 0, ht fr 0 0, gE ha 0] 95));rw[dc] at R |-;obtain⟨ag,aQ⟩:=nM W7.heap.size;rw[aQ] at R |-;clear aQ dc;have aw:=R.k2;obtain⟨bc,bg,bw⟩:=aw.c3;have R:=gF R;clear aw aP aS ak an;refine iG 24 fun K hK=>?_;go_simp;refine hK _ _ ?_;clear hK K;obtain⟨ad,am⟩:=nM (((bt.setCell ⟨ag,0,fr⟩ (ht H J E)).setCell ⟨ag,1,fr⟩ (ht I L F)).setCell ⟨ag,2,fr⟩ (gE ha N));rw[am];have aH:=gF (am▸R.o.put:nA B0 wr (fq C p.length A).ownBlock ag #[ht H J E, ht I L F, gE ha N] [ht H J E, ht I L F, gE ha N] (ht ai aU ah) aT ad);clear am bc bg bw R;refine iG 25 fun K hK=>?_;go_simp;refine hK _ _ ?_;clear hK K;refine iG 26 fun K hK=>?_;go_simp;refine hK _ _ ?_;clear hK K;refine kS ?_
      rotate_left;focus
       go_simp;refine hK _ _ ?_;clear hK K;simp only[gU];refine iG 18 fun K hK=>?_;have cx:fz wr.heap.size wr (W5.alloc (hG #[ht fr 0 0, ht fr 0 0, gE ha 0] 95)):=aG.o.alloc aG.o.size _;go_simp;refine(ck.o _ cx).mono ?_;rintro e W7 ⟨aP,H,J,E,I,L,F,N,ai,aU,ah,rfl,aS⟩;refine hK _ _ ?_;clear hK K;simp only[gU];refine fs (i:=19) (v:=?_) rfl oP oP oP (fun _ _ _ g=>g) (fx ⟨oO,?_⟩) ?_;rotate_left;. intro w;go_simp;try with_reducible rfl
       simp only[fv,gU];refine fs (i:=20) (v:=?_) rfl oP oP oP (fun _ _ _ g=>g) (fx ⟨oO,?_⟩) ?_;rotate_left;. intro w;go_simp;try with_reducible rfl
       simp only[fv,gU];refine fs (i:=21) (v:=?_) rfl oP oP oP (fun _ _ _ g=>g) (fx ⟨oO,?_⟩) ?_;rotate_left;. intro w;go_simp;try with_reducible rfl
       simp only[fv,gU];refine fs (i:=22) (v:=?_) rfl oP oP oP (fun _ _ _ g=>g) (fx ⟨oO,?_⟩) ?_;rotate_left;. intro w;go_simp;try with_reducible rfl
       simp only[fv,gU];have R:nA B0 wr (fq C p.length A).ownBlock W5.heap.size #[ht fr 0 0, ht fr 0 0, gE ha 0] [ht H J E, ht I L F, gE ha N] (ht ai aU ah) aT W7:=nA.early aG.o dA aP aS;obtain⟨bt,rfl⟩:=nP W7;obtain⟨ag,aQ⟩:=nM W5.heap.size;rw[aQ] at R |-;clear aQ;have aw:=R.k2;obtain⟨bc,bg,bw⟩:=aw.c3;have R:=gF R;clear aw aP aS ak an;refine iG 24 fun K hK=>?_;go_simp;refine hK _ _ ?_;clear hK K;obtain⟨ad,am⟩:=nM (((bt.setCell ⟨ag,0,fr⟩ (ht H J E)).setCell ⟨ag,1,fr⟩ (ht I L F)).setCell ⟨ag,2,fr⟩ (gE ha N));rw[am];have aH:=gF (am▸R.o.put:nA B0 wr (fq C p.length A).ownBlock ag #[ht H J E, ht I L F, gE ha N] [ht H J E, ht I L F, gE ha N] (ht ai aU ah) aT ad);clear am bc bg bw R;refine iG 25 fun K hK=>?_;go_simp;refine hK _ _ ?_;clear hK K;refine iG 26 fun K hK=>?_;go_simp;refine hK _ _ ?_;clear hK K;refine kS ?_
     rotate_left 2;focus
      go_simp;refine hK _ _ ?_;clear hK K;simp only[gU];refine iG 0 fun K hK=>?_;go_simp;refine hK _ _ ?_;clear hK K;simp only[fB,fP];refine iG 18 fun K hK=>?_;have cx:fz wr.heap.size wr (W5.alloc (hG #[ht fr 0 0, ht fr 0 0, gE ha 0] 95)):=aG.o.alloc aG.o.size _;go_simp;refine(ck.o _ cx).mono ?_;rintro e W7 ⟨aP,H,J,E,I,L,F,N,ai,aU,ah,rfl,aS⟩;refine hK _ _ ?_;clear hK K;simp only[gU];refine fs (i:=19) (v:=?_) rfl oP oP oP (fun _ _ _ g=>g) (fx ⟨oO,?_⟩) ?_;rotate_left;. intro w;go_simp;try with_reducible rfl
      simp only[fv,gU];refine fs (i:=20) (v:=?_) rfl oP oP oP (fun _ _ _ g=>g) (fx ⟨oO,?_⟩) ?_;rotate_left;. intro w;go_simp;try with_reducible rfl
      simp only[fv,gU];refine fs (i:=21) (v:=?_) rfl oP oP oP (fun _ _ _ g=>g) (fx ⟨oO,?_⟩) ?_;rotate_left;. intro w;go_simp;try with_reducible rfl
      simp only[fv,gU];refine fs (i:=22) (v:=?_) rfl oP oP oP (fun _ _ _ g=>g) (fx ⟨oO,?_⟩) ?_;rotate_left;. intro w;go_simp;try with_reducible rfl
      simp only[fv,gU];have R:nA B0 wr (fq C p.length A).ownBlock W5.heap.size #[ht fr 0 0, ht fr 0 0, gE ha 0] [ht H J E, ht I L F, gE ha N] (ht ai aU ah) aT W7:=nA.early aG.o dA aP aS;obtain⟨bt,rfl⟩:=nP W7;obtain⟨ag,aQ⟩:=nM W5.heap.size;rw[aQ] at R |-;clear aQ;have aw:=R.k2;obtain⟨bc,bg,bw⟩:=aw.c3;have R:=gF R;clear aw aP aS ak an;refine iG 24 fun K hK=>?_;go_simp;refine hK _ _ ?_;clear hK K;obtain⟨ad,am⟩:=nM (((bt.setCell ⟨ag,0,fr⟩ (ht H J E)).setCell ⟨ag,1,fr⟩ (ht I L F)).setCell ⟨ag,2,fr⟩ (gE ha N));rw[am];have aH:=gF (am▸R.o.put:nA B0 wr (fq C p.length A).ownBlock ag #[ht H J E, ht I L F, gE ha N] [ht H J E, ht I L F, gE ha N] (ht ai aU ah) aT ad);clear am bc bg bw R;refine iG 25 fun K hK=>?_;go_simp;refine hK _ _ ?_;clear hK K;refine iG 26 fun K hK=>?_;go_simp;refine hK _ _ ?_;clear hK K;refine kS ?_
     all_goals
      have bD:=aH.o.g;have cf:=bm.grown bD fun e=>nu aA bm oF e.symm;have ch:=bN.grown bD fun e=>nu aA bN oF e.symm;have cg:=bM.grown bD fun e=>nu aA bM oF e.symm;have bW:=Ga aY bD b7;have a8:=gF (gK cf (gK ch (gK cg bW)));clear ak an bD cf ch cg bW dJ;obtain⟨G,aa,Z⟩:=a8.o.2.1.c3;cases aT with
      | none=>
       have ac:Hid (iH d gI gJ (f+1) page used=fr):=gF (by
        rw[a'.o,if_neg aJ,bR.o,if_neg (by rintro (g|g|g);exact g (gk.1 (by rw[br.o,cc];rfl));exact cL g;exact cM g),ap.o.1,xC dk,cn.o,jL,cm.o]
        rfl)
       simp only[Option.isSome_none];go_wp2;refine fO (v:= .tuple #[hF #[ht fr 0 0, ht fr 0 0, gE ha 0], ht fr 0 0, hE ft]) (by simp[gf,fE,go_sem,G]) rfl ?_;rw[<-aD.o];unfold ux;rw[ac.o];have q:=iT (b:=m+1) (k:=2) (v:= gE ha 0) (iT (b:=m+1) (k:=1) (v:= ht fr 0 0) (iT (b:=m+1) (k:=0) (v:= ht fr 0 0) (fF w.heap.size ad) oM) oM) oM;have s:=a8.o.2.2.2;exact⟨⟨q.os.trans s.os,q.tape.trans s.tape,q.output.trans s.output,jU s.size q.size,fun h U ae=>(q.block h U).trans (s.block h U ae)⟩,_,_,_,_,_,_,_,_,_,_,rfl,fun n p g=>by cases g⟩
      | some ey=>
       obtain⟨b8,aE⟩:=ey;obtain⟨a5,bK,cK,cd⟩:=aH.o.res b8 aE rfl;obtain⟨b9,c',cW,en,-,-⟩:=nC a5;simp only[fY] at cW;obtain⟨rfl,rfl,rfl⟩:=cW;obtain⟨eo,e0⟩:=zX f cm.o dz;have dn:(fq ko h kc).ownBlock=fr\/(fq ko h kc).ownBlock≠(fq C p.length A).ownBlock:=by
        cases bH:(fq ko h kc).ownBlock with
        | none=>exact .inl rfl
        | some bd=>exact .inr (fun e=>zY hK aA oF bd bH e.symm)
       have c7:=hK.kept aH.o.g dn;have aw:=aH.o.k2;have dS:Hid (jL (iH d gI gJ f) (mg (r.drop 2) a1) (used++[page])=(jL (iH d gI gJ f) ((mg (r.drop 2) a1).drop (h+1)) aE).map (fun x=>((u++[b8])++x.1,x.2))/\(u++[b8]).length=h+1/\(KC++[[fq H J E, ht I L F, gE ha N]]).length=h+1):=gF ⟨by
        rw[ap.o.1,xC dk,cn.o,jL,cm.o];simp only[Option.map_map];congr 1;funext y
        simp,by rw[iI,ap.o.2.1];rfl,by rw[iI,ap.o.2.2];rfl⟩
       obtain⟨ew,dp,dq,dr,ds⟩:=info_parts wC;have bT:=gF (gK dp (gK dq (gK dr ds)));have c8:=c7.alloc (hG #[ht H J E, ht I L F, gE ha N] 95);have dM:=a8.o.2.2.1.alloc (hG #[ht H J E, ht I L F, gE ha N] 95);have dR:Hid (∀p∈[fq H J E, ht I L F, gE ha N],p.oneCell'=fI):=gF (by intro p aC;simp at aC;rcases aC with rfl|rfl|rfl<;>rfl)
       have ci:=gF (Bx.new ad #[.slice H J E, .slice I L F, .int .i64 N] 95);have bp:=gF (gK c8 dM);have dY:=gF (gK a5 (gK bK (gK cK cd)));have eT:M<ad.heap.size:=a8.o.2.2.1.lt;clear dp dq dr ds a5 bK cK cd dn en c8 dM G aa Z;obtain⟨eJ,e9⟩:=a8.o.2.2.1.c2;obtain⟨bc,bg⟩:=aw.c2;clear aw c7;go_wp2_with (at_builtin;refine wpList_append_own_at _ rfl _ _ 93 rfl (M+1) 95 ew _ 3 56 underlying93 bT.o.1 bT.o.2.1 bT.o.2.2.1 bT.o.2.2.2 rfl oF (.slice ko h kc) h KC.flatten rfl bp.o.1 ⟨ad.heap.size,0,fr⟩ 1 1 [.slice H J E, .slice I L F, .int .i64 N] rfl rfl (ua ci.o) dR.o (by unfold ga;omega) oM oN ?_;intro eA a6 cG bE _ ep;obtain⟨bi,bb,rfl⟩:=pD cG;have dL:=bp.o.2.grown bE (fun e=>by have:=(bp.o.1.lt M e.symm).1;omega);obtain⟨eK,e',eQ⟩:=dL.c3);go_roundw;case rel=>
        obtain⟨cf,ch,cg,bW⟩:=a8.o;obtain⟨a5,bK,cK,cd⟩:=dY.o;have d8:=Below.one ad (hG #[ht H J E, ht I L F, gE ha N] 95);have cA:=bp.o.1.lt;have dD:w.heap.size<=M:=by rw[<-a9.o];exact D.o.2.2.2.2.1.size
        have d7:m+1<M:=by rw[<-a9.o];exact D.o.2.1.lt
        have bF:ad.grownBy a6 (fq ko h kc).ownBlock:=(gY d8 (fu _) _).trans bE;have eh:(fq ai aE.length ah).ownBlock=fr\/(fq ai aE.length ah).ownBlock≠(fq ko h kc).ownBlock:=by
         cases bH:(fq ai aE.length ah).ownBlock with
         | none=>exact .inl rfl
         | some bd=>exact .inr (fun e=>zY (a5.alloc (hG #[ht H J E, ht I L F, gE ha N] 95)) bp.o.1 oF bd bH e.symm)
        have er:(fq ai aE.length ah).ownBlock=(fq ao ab ax).ownBlock\/ ∀b,(fq ai aE.length ah).ownBlock=fw b->w.heap.size<=b:=by rcases bK with g|g;rw[g];exact b7;exact .inr fun b j=>jU aY.size (g b j)
        have bG:=Ga bW bF (.inr fun b j=>by have:=(cA b j).1;omega);have q:fz w.heap.size a6 (a6.setCell ⟨M,1,fr⟩ (ht bi (h+1) bb)):=iT (fF _ _) dD;refine⟨h+1,u++[b8],KC++[[fq H J E, ht I L F, gE ha N]],bi,bb,aE,ai,ah,oM,oQ,rfl,dS,eo,oM,?_,?_,?_,?_,?_,?_,er,?_,?_⟩;exact((cf.alloc _).grown bE fun e=>by have:=(cA m e.symm).1;omega).jc (a:=⟨M,1,fr⟩) oN _;exact((ch.alloc _).grown bE fun e=>by have:=(cA (m+1) e.symm).1;omega).jc (a:=⟨M,1,fr⟩) oN _;exact dL.set 1 _;rw[gB];exact oX cG (a:=⟨M,1,fr⟩) (fun e=>by have:=(cG.lt M e).1;omega) _;exact oX ((a5.alloc _).kept bE eh) (a:=⟨M,1,fr⟩) (nu a5 cg oF) _;exact⟨q.os.trans bG.os,q.tape.trans bG.tape,q.output.trans bG.output,jU bG.size q.size,fun h U ae=>(q.block h U).trans (bG.block h U ae)⟩;have:=bF.size;simp;omega;have am:=aH.o.g.size;have dh: ∀b,b<wr.heap.size->(fq C p.length A).ownBlock≠fw b->b≠M->(fq ko h kc).ownBlock≠fw b->(a6.setCell ⟨M,1,fr⟩ (ht bi (h+1) bb)).heap[b]?=wr.heap[b]?:=fun b bV cp d5 d6=>
         (fy _ ⟨M,1,fr⟩ _ _ d5).trans ((bF.block b oM fun e=>d6 e.symm).trans (aH.o.g.block b bV fun e=>cp e.symm))
        have eg: ∀b,wr.heap.size<=b->b<ad.heap.size->(a6.setCell ⟨M,1,fr⟩ (ht bi (h+1) bb)).heap[b]?=ad.heap[b]?:=fun b bV cp=>
         (fy _ ⟨M,1,fr⟩ _ _ (show b≠M by omega)).trans (bF.block b cp fun e=>by have:=(hK.lt b e.symm).2;omega)
        have eZ:(a6.setCell ⟨M,1,fr⟩ (ht bi (h+1) bb)).heap.size=a6.heap.size:=oC
        have eR:=bF.size;have ee:(ad.alloc (hG #[ht H J E, ht I L F, gE ha N] 95)).heap.size=ad.heap.size+1:=oC
        have dt: ∀b,(fq bi (h+1) bb).ownBlock=fw b->(fq ko h kc).ownBlock=fw b\/ad.heap.size<=b:=by intro b j;rcases ep with g|g;exact .inl (g▸j);rw[g,ee] at j;simp at j;exact .inr oM
        refine gF ⟨bQ.o.1.same fun b (j:b<B0)=>?_,fun i g al=>?_⟩;have eq:(fq C p.length A).ownBlock≠fw b:=fun e=>by have:=(aA.lt b e).1;omega
        have ef:(fq ko h kc).ownBlock≠fw b:=fun e=>by have:=(hK.lt b e).1;omega
        exact dh b (by have:=aY.size;omega) eq oM ef
        by_cases a2:i<u.length
        have dg:i<KC.length:=by have:=ap.o.2.1;have:=ap.o.2.2;omega
        rw[fN dg,fN a2];refine(bQ.o.2 i dg a2).same (fun b j=>dh b j.2.1 j.2.2.2.2.2.2 j.2.2.2.2.1 j.2.2.2.2.2.1) fun b j=>⟨j.1,oM,j.2.2.1,j.2.2.2.1,j.2.2.2.2.1,fun e=>?_,fun e=>?_⟩;rcases dt b e with e|e;exact j.2.2.2.2.2.1 e;omega;rcases bK with bU|bU;exact j.2.2.2.2.2.2 (bU▸e);have:=bU b e;omega;have cX:i=u.length:=by rw[iI] at al;simp at al;omega
        have bU:i=KC.length:=by rw[cX,ap.o.2.1,ap.o.2.2]
        rw[fM oM,fM oM];have d2:i - KC.length=0:=oM
        have d3:i - u.length=0:=oM
        simp only[d2,d3,List.getElem_cons_zero];have eS:=aY.size;refine cd.same (fun b j=>eg b j.1 j.2.1) fun b j=>⟨oM,oM,oM,oM,oM,fun e=>?_,j.2.2.2⟩;rcases dt b e with e|e;have:=(hK.lt b e).2;omega;omega
       case measure=>simp[intOf];omega
    obtain rfl:h=a1:=oM
    have cC:jL (iH d gI gJ f) (mg (r.drop 2) h) (used++[page])=fw (u,p):=by rw[ap.o.1,gx (by rw[BD];exact fu _),jL];simp
    have aR:=ap.o.2.1;have di:=ap.o.2.2;obtain⟨-,dd⟩:=wu cC;have df:lC (.mk [] u page):= .inr ⟨by show 2<=u.length;omega,by show u.length<=8;omega,fun k bH=>by obtain⟨fb,aE,ff,b2⟩:=dd k bH;have af:=zu f b2;have ei:=Nb b2;exact⟨af.first,af.ie,oM,oM⟩⟩
    have d7:m+1<M:=by rw[<-a9.o];exact D.o.2.1.lt
    have dD:w.heap.size<=M:=by rw[<-a9.o];exact D.o.2.2.2.2.1.size
    have cD:jf (fun b=>w.heap.size<=b/\b<wr.heap.size/\b≠m/\b≠m+1/\b≠M/\(fq C p.length A).ownBlock≠fw b) wr [ht fr 0 0, ht ko h kc, gE ha page] (.mk [] u page):=by
     obtain⟨b9,c',e,af,cH,-⟩:=nC hK;obtain⟨rfl,rfl⟩:ko=b9/\kc=c':=by simpa using e
     have dl:=jf.mk (S:=fun b=>w.heap.size<=b/\b<wr.heap.size/\b≠m/\b≠m+1/\b≠M/\(fq C p.length A).ownBlock≠fw b) (w:=wr) [] u page fr 0 ko kc KC (.inl ⟨rfl,rfl,rfl⟩) (gO.nil _ _ _) (by rw[aR];exact af) (by rw[aR,di]) (fun i a2=>by obtain⟨bd,ex,cY,bB,b2⟩:=cH i a2;have aB:=zY hK aA oF bd (by rw[cY];rfl);exact⟨bd,ex,cY,bB,oM,b2.2,oM,oM,oM,aB⟩) (fun i g al=>(bQ.o.2 i al g).same (fun _ _=>rfl) fun b j=>⟨j.1,j.2.1,j.2.2.1,j.2.2.2.1,j.2.2.2.2.1,j.2.2.2.2.2.2⟩)
     rw[aR] at dl;exact dl
    have b1:=fun W (j:fz wr.heap.size wr W)=>y4 (.mk [] u page) fr ko 0 kc W (by
     have bV:=(cD.same (T:=fun b=>b<wr.heap.size) (fun b bz=>j.block b bz.2.1) fun b bz=>bz.2.1).c (w:=W) fun b bz=>iU bz j.size;unfold il;simp only[Nd.ps,Nd.gC,Nd.page,aR,gn];exact bV) df
    obtain⟨ez,cI⟩:=nM (bs (iy (.mk [] u page)));rw[cI] at b1;simp only[il,Nd.ps,Nd.gC,Nd.page,aR,gn] at b1;have cj:=gF b1;obtain⟨bv,aZ⟩:=nM ((ez.toList==V.toList));have ac:Hid (iH d gI gJ (f+1) page used=if bv=fI then fw (.mk [] u page,p) else fr):=gF (by
     have d':iy (.mk [] u page)=jg (kd u):=by unfold iy oY;rw[if_neg (show¬(Nd.mk [] u page).gC=[] by intro e;have e:u=[]:=e;rw[e] at aR;simp at aR;omega)];rfl
     have e:bv=decide (jg (kd u)=r):=by
      rw[<-aZ, <-cI, <-cR.o.2.1,zV,zV,d']
      by_cases g:jg (kd u)=r
      . rw[decide_eq_true g];exact beq_iff_eq.2 g
      . rw[decide_eq_false g];exact beq_eq_false_iff_ne.2 g
     rw[a'.o,if_neg aJ,bR.o,if_neg (by rintro (g|g|g);exact g (gk.1 (by rw[br.o,cc];rfl));exact cL g;exact cM g),cC,e]
     simp)
    have dV:=gF cD;have t:=gF (gK bN (gK aA (gK aY (gK bM b7))));obtain⟨aW,a4⟩:=bM.c2;obtain⟨G,aa,Z⟩:=bN.c3;clear b1 cD cI cC aR di dd df bN bM hK aA aY b7 bm;go_upto_region 19 with fail
    refine qm #[ft,ft,ft,ft,ft,ft,ft,ft,ft] 9 oP oO rfl ?_;refine fs (i:=1) (v:=(ht C p.length A)) rfl oP oP oP (fun _ _ _ g=>g) (fx ⟨oO,fun w=>by first|rfl| (go_simp;try with_reducible rfl)⟩) ?_;simp only[ki,fv,gU];refine fs (i:=4) (v:=(hA V)) rfl oP oP oP (fun _ _ _ g=>g) (fx ⟨oO,fun w=>by first|rfl| (go_simp;try with_reducible rfl)⟩) ?_;simp only[ki,fv,gU];refine gu (rs:=[0,2]) oP oC ?_;refine fG rfl (fun K hK=>?_) (fG rfl (fun K hK=>?_) gd);focus
     go_simp;refine hK _ _ ?_;clear hK K;simp only[fB,fP];refine iG 2 fun K hK=>?_;go_simp;refine hK _ _ ?_;clear hK K;simp only[gU];refine iG 3 fun K hK=>?_;go_simp;have av:fz wr.heap.size wr wr.drew:=⟨rfl,rfl,rfl,fu _,fun _ _=>rfl⟩;refine(cj.o _ av).mono ?_;rintro e W2 ⟨rfl,aN⟩;have X:fz wr.heap.size wr W2:=av.trans aN;clear av aN;refine hK _ _ ?_;clear hK K;simp only[gU];refine fs (i:=5) (v:=?_) rfl oP oP oP (fun _ _ _ g=>g) (fx ⟨oO,?_⟩) ?_;rotate_left;. intro w;go_simp;try with_reducible rfl
     simp only[fv,gU]
     (try rw[aZ])
     clear aZ;have ay:=t.o.1.gD X;have aM:=nD t.o.2.1 X;have aK:=fC t.o.2.2.1 (gY X (fu _) _);have bq:=gF (gK ay (gK aM (gK aK X)));clear G aa Z aW a4;obtain⟨G,aa,Z⟩:=ay.c3;have aV:=t.o.2.2.2.1.gD X;obtain⟨aW,a4⟩:=aV.c2;clear X ay aM aK aV
    rotate_left;focus
     go_simp;refine hK _ _ ?_;clear hK K;simp only[gU];refine gu (rs:=[0,3]) oP oC ?_;refine fG rfl (fun K hK=>?_) (fG rfl (fun K hK=>?_) gd);focus
      go_simp;refine hK _ _ ?_;clear hK K;simp only[fB,fP];refine iG 3 fun K hK=>?_;go_simp;have av:fz wr.heap.size wr wr.drew:=⟨rfl,rfl,rfl,fu _,fun _ _=>rfl⟩;refine(cj.o _ av).mono ?_;rintro e W2 ⟨rfl,aN⟩;have X:fz wr.heap.size wr W2:=av.trans aN;clear av aN;refine hK _ _ ?_;clear hK K;simp only[gU];refine fs (i:=5) (v:=?_) rfl oP oP oP (fun _ _ _ g=>g) (fx ⟨oO,?_⟩) ?_;rotate_left;. intro w;go_simp;try with_reducible rfl
      simp only[fv,gU]
      (try rw[aZ])
      clear aZ;have ay:=t.o.1.gD X;have aM:=nD t.o.2.1 X;have aK:=fC t.o.2.2.1 (gY X (fu _) _);have bq:=gF (gK ay (gK aM (gK aK X)));clear G aa Z aW a4;obtain⟨G,aa,Z⟩:=ay.c3;have aV:=t.o.2.2.2.1.gD X;obtain⟨aW,a4⟩:=aV.c2;clear X ay aM aK aV
     rotate_left;focus
      go_simp;have av:fz wr.heap.size wr wr.drew:=⟨rfl,rfl,rfl,fu _,fun _ _=>rfl⟩;refine(cj.o _ av).mono ?_;rintro e W2 ⟨rfl,aN⟩;have X:fz wr.heap.size wr W2:=av.trans aN;clear av aN;refine hK _ _ ?_;clear hK K;simp only[gU];refine fs (i:=5) (v:=?_) rfl oP oP oP (fun _ _ _ g=>g) (fx ⟨oO,?_⟩) ?_;rotate_left;. intro w;go_simp;try with_reducible rfl
      simp only[fv,gU]
      (try rw[aZ])
      clear aZ;have ay:=t.o.1.gD X;have aM:=nD t.o.2.1 X;have aK:=fC t.o.2.2.1 (gY X (fu _) _);have bq:=gF (gK ay (gK aM (gK aK X)));clear G aa Z aW a4;obtain⟨G,aa,Z⟩:=ay.c3;have aV:=t.o.2.2.2.1.gD X;obtain⟨aW,a4⟩:=aV.c2;clear X ay aM aK aV;refine iG 0 fun K hK=>?_;go_simp;refine hK _ _ ?_;clear hK K;simp only[fB,fP]
    all_goals
     refine iG 6 fun K hK=>?_;go_simp;refine hK _ _ ?_;clear hK K;refine iG 7 fun K hK=>?_;go_simp;refine hK _ _ ?_;clear hK K;refine iG 8 fun K hK=>?_;go_simp;refine hK _ _ ?_;clear hK K;refine kS ?_;obtain⟨Wf,aj⟩:=nM (((W2.setCell ⟨m+1,0,fr⟩ (ht fr 0 0)).setCell ⟨m+1,1,fr⟩ (ht ko h kc)).setCell ⟨m+1,2,fr⟩ (gE ha page));have bP:Bx Wf (m+1) #[ht fr 0 0, ht ko h kc, gE ha page] 95:=by rw[<-aj];have:=((bq.o.1.set 0 (ht fr 0 0)).set 1 (ht ko h kc)).set 2 (gE ha page);simpa using this
     have aB:(fq C p.length A).ownBlock≠fw (m+1):=nu t.o.2.1 t.o.1 oF;have bn:Wf.ownsRow B0 3 1 (ht C p.length A) p.length (jI p):=by rw[<-aj];exact oX (a:=⟨m+1,2,fr⟩) (oX (a:=⟨m+1,1,fr⟩) (oX (a:=⟨m+1,0,fr⟩) bq.o.2.1 aB _) aB _) aB _
     have q:fz w.heap.size W2 Wf:=by rw[<-aj];exact iT (iT (iT (fF _ _) oM) oM) oM
     have bo: ∀b,b≠m+1->Wf.heap[b]?=W2.heap[b]?:=fun b j=>by rw[<-aj];exact(fy _ ⟨m+1,2,fr⟩ _ _ j).trans ((fy _ ⟨m+1,1,fr⟩ _ _ j).trans (fy _ ⟨m+1,0,fr⟩ _ _ j))
     have cT:=gF (gK bP (gK bn (gK q bo)));clear G aa Z aW a4 aB bP bn q bo;rw[aj];have eE:=gF aj;clear aj;go_wp2;have co:=cT.o.1.cell;refine fO (v:= .tuple #[hF #[ht fr 0 0, ht ko h kc, gE ha page], ht C p.length A, hE bv]) (by simp[gf,fE,go_sem,co]) rfl ?_;rw[<-aD.o,ac.o];obtain⟨bP,bn,q,bo⟩:=cT.o;obtain⟨fn,fo,bO,dP⟩:=bq.o;refine⟨⟨q.os.trans bO.os,q.tape.trans bO.tape,q.output.trans bO.output,jU bO.size q.size,fun h U ae=>(q.block h U).trans (bO.block h U ae)⟩,_,_,_,_,_,_,_,_,_,_,by cases bv<;>rfl,fun fa fe g=>?_⟩
     cases bv with
     | false=>cases g
     | true=>have g:=Option.some.inj g;cases g;refine⟨bn,t.o.2.2.2.2,dV.o.same (fun b j=>(bo b j.2.2.2.1).trans (dP.block b j.2.1)) fun b j=>⟨j.1,?_,j.2.2.2.2.2⟩⟩;have:=dP.size;have:=q.size;omega
 all_goals refine fO (v:= .tuple #[hF #[ht fr 0 0, ht fr 0 0, gE ha 0], ht fr 0 0, hE ft]) (by simp[gf,fE,go_sem,G]) rfl ?_;rw[<-aD.o];unfold ux;rw[ac.o];exact⟨gY (iT (iT (iT az.o oM) oM) oM) (fu _) _,_,_,_,_,_,_,_,_,_,_,rfl,fun n p g=>by cases g⟩
end
section
variable {S:Nat->Prop} {P:Program} {ops:Array Oper} {rest:List Oper} {o:Oper} {a:Act} {Q:Exit->Act->fR->Prop} {w:fR}
theorem Cf {K:Act->fR->Prop} (s x:Operand) (t:TypeId)
  (A:o.op=Op.call { callee:=Callee.builtin Builtin.append,args:=#[s,x],argTypes:=#[t,t] })
  (g:Nat) (e:TypeId) (i:TypeInfo) (z:fL) (b k:Nat) (C:P.underlying t=fw (.slice e)) (u:P.info? e=fw i) (X:i.zero=fw z)
  (U:i.size=b) (L:i.bytes=k) (Y:z.cells.size=b) (V:0<b)
  (v:fL) (n:Nat) (j:List fL) (B:a.eval s=v) (q:w.ownsRow g e b v n j)
  (h:Option Addr) (c m:Nat) (f:List fL) (D:a.eval x= ht h c m) (N:h=fr->c=0/\m=0) (y:f.length=c * b) (p:gO S w h f) (E: ∀Z∈f,Z.oneCell'=fI)
  (I:n+c<=ga) (M:(n+c) * k<=140737488355328) (J:g<=w.heap.size)
  (hK: ∀v' w',w'.ownsRow g e b v' (n+c) (j++f)->w.grownBy w' v.ownBlock->(v'.ownBlock=v.ownBlock\/v'.ownBlock=fw w.heap.size)->K (a.put o.dst v') w'):
  o.wp P a w K Q:=by
 cases h with
 | some r=>obtain⟨v',w',O,F,G,_,H⟩:=run_append_own_at (P:=P) w g t o.type e i z b k C u X U L Y V v n j q r c m f y (p.src r rfl) E I M J;unfold Oper.wp execOp;simp only[A,resolve,invoke,builtin,Sem.run_bind,Sem.run_pure,Result.andThen_ok,List.map_toArray,List.map_cons,List.map_nil,B,D,O];exact hK v' w' F G H
 | none=>obtain⟨rfl,rfl⟩:=N rfl;have p:f=[]:=List.eq_nil_of_length_eq_zero (by simpa using y);subst p;have R:=run_append_owned_none (P:=P) w g t o.type e i b C u v n j q;unfold Oper.wp;simp[execOp,A,resolve,invoke,builtin,B,D,R,Result.andThen];exact hK _ _ (by simpa using q) (World.grownBy.refl _ _) (.inl rfl)
theorem zZ (E:o.guard=fr) (s x:Operand) (t:TypeId)
  (J:o.op=Op.call { callee:=Callee.builtin Builtin.append,args:=#[s,x],argTypes:=#[t,t] })
  (h:Nat) (e:TypeId) (i:TypeInfo) (z:fL) (c j:Nat) (R:P.underlying t=fw (.slice e)) (F:P.info? e=fw i) (V:i.zero=fw z)
  (N:i.size=c) (C:i.bytes=j) (X:z.cells.size=c) (O:0<c)
  (v:fL) (n:Nat) (m:List fL) (M:a.eval s=v) (L:w.ownsRow h e c v n m)
  (g:Option Addr) (b k:Nat) (f:List fL) (U:a.eval x= ht g b k) (I:g=fr->b=0/\k=0) (G:f.length=b * c) (H:gO S w g f) (p: ∀Y∈f,Y.oneCell'=fI)
  (y:n+b<=ga) (D:(n+b) * j<=140737488355328) (B:h<=w.heap.size)
  (hK: ∀v' w',w'.ownsRow h e c v' (n+b) (m++f)->w.grownBy w' v.ownBlock->(v'.ownBlock=v.ownBlock\/v'.ownBlock=fw w.heap.size)->wpList P ops Q rest (a.put o.dst v') w'):
  wpList P ops Q (o::rest) a w:=
 wpList_plain E fun _ A=>Cf s x t J h e i z c j R F V N C X O v n m M L g b k f U I G H p y D B fun v' w' q r u=>A _ _ (hK v' w' q r u)
end
def Cg (gC:List Nd):Prop:= ∀i j (hi:i<gC.length) (hj:j<gC.length),i<=j->iB gC[j].ie gC[i].ie=ft
def jw (S:Nat->Prop) (w:fR) (o:Option Addr) (l:List Nd):Prop:=
 ∃KC:List (List fL),KC.length=l.length/\gO S w o KC.flatten/\ ∀(i:Nat) (h:i<l.length) (h':i<KC.length),jf S w KC[i] l[i]
theorem jf.up (h:jf S w cs n) (c: ∀b,S b->T b):jf T w cs n:=h.same (fun _ _=>rfl) c
theorem jf.keep (h:jf S w cs n) (f: ∀b,S b->b<w.heap.size) (g:fz w.heap.size w w'):jf S w' cs n:=h.same (fun b c=>g.block b (f b c)) fun _ c=>c
theorem jw.up (h:jw S w o l) (c: ∀b,S b->T b):jw T w o l:=by
 obtain⟨KC,f,g,j⟩:=h;exact⟨KC,f,g.mono c,fun i a b=>(j i a b).up c⟩
theorem jw.same (h:jw S w o l) (c: ∀b,S b->w'.heap[b]?=w.heap[b]?):jw S w' o l:=by
 obtain⟨KC,f,g,j⟩:=h;exact⟨KC,f,g.same' c,fun i a b=>(j i a b).same c fun _ k=>k⟩
theorem jw.keep (h:jw S w o l) (c: ∀b,S b->b<w.heap.size) (f:fz w.heap.size w w'):jw S w' o l:=h.same fun b g=>f.block b (c b g)
theorem jf.parts {kc:Nat} (h:jf S w (il po pc ko kc n) n):jk po n.ps.length pc/\gO S w po (gV n.ps)/\jk ko n.gC.length kc/\jw S w ko n.gC:=by
 generalize b:il po pc ko kc n=cs at h;cases h with|mk ps gC page Py Pz PA nV KC h1 h2 h3 h4 h5 h6=>
  obtain⟨rfl,rfl,rfl,rfl⟩:po=Py/\pc=Pz/\ko=PA/\kc=nV:=by simp only[il,Nd.ps,Nd.gC,Nd.page,List.cons.injEq,fY,and_true,true_and] at b;exact⟨b.1.1,b.1.2,b.2.1,b.2.2⟩
  exact⟨h1,h2,h3,KC,h4,h5,h6⟩
theorem jf.of {kc:Nat} {ps:List Kv} (page:Int) (b:jk po ps.length pc) (c:gO S w po (gV ps)) (f:jk ko gC.length kc) (g:jw S w ko gC):jf S w (il po pc ko kc (.mk ps gC page)) (.mk ps gC page):=by
 obtain⟨KC,h,j,k⟩:=g;exact .mk ps gC page po pc ko kc KC b c f h j k
theorem jw.nil (S:Nat->Prop) (w:fR) (o:Option Addr):jw S w o []:=⟨[],rfl,gO.nil _ _ _,fun i b=>by simp at b⟩
theorem vr (h: ∀x∈KC,x.length=3):KC.flatten.length=KC.length * 3:=by
 rw[List.length_flatten];have:KC.map List.length=List.replicate KC.length 3:=List.eq_replicate_iff.2 ⟨oC,fun x b=>by obtain⟨f,c,rfl⟩:=List.mem_map.1 b;exact h f c⟩;rw[this];simp
theorem z6 (h: ∀x∈KC,x.length=3) (k:Nat):(KC.take k).flatten=KC.flatten.take (k * 3):=by
 induction KC generalizing k with
 | nil=>simp
 | cons x l f=>
  cases k with
  | zero=>simp
  | succ k=>have b:=h x oC;rw[List.take_succ_cons,gh,gh,f (fun g c=>h g (by simp[c])),List.take_append,b,gw (l:=x) oM];congr 2;omega
theorem Ng (h: ∀x∈KC,x.length=3) (k:Nat):(KC.drop k).flatten=KC.flatten.drop (k * 3):=by
 induction KC generalizing k with
 | nil=>simp
 | cons x l f=>
  cases k with
  | zero=>simp
  | succ k=>have b:=h x oC;rw[List.drop_succ_cons,gh,f (fun g c=>h g (by simp[c])),List.drop_append,b,gx (l:=x) oM,List.nil_append];congr 1;omega
theorem s3 (k:KC.length=l.length) (b: ∀(i:Nat) (h:i<l.length) (j:i<KC.length),jf S w KC[i] l[i]): ∀x∈KC,x.length=3:=by
 intro x f;obtain⟨g,c,rfl⟩:=gA f;exact(b g oM c).len
theorem wD (m:KC.length=l.length) (c: ∀(i:Nat) (h:i<l.length) (k:i<KC.length),jf S w KC[i] l[i]): ∀u∈KC.flatten,u.oneCell'=true:=by
 intro u b;obtain⟨x,g,b⟩:=List.mem_flatten.1 b;obtain⟨j,f,rfl⟩:=gA g;obtain⟨po,pc,ko,kc,e⟩:=(c j oM f).cells;rw[e] at b;simp only[il,j4,List.not_mem_nil,or_false] at b;rcases b with rfl|rfl|rfl<;>rfl
theorem jw.take (h:jw S w o l) (k:Nat):jw S w o (l.take k):=by
 obtain⟨KC,b,j,c⟩:=h;refine⟨KC.take k,by simp[b],?_,fun i a f=>?_⟩;rw[z6 (s3 b c)];intro r p;rw[fW] at p;obtain⟨g,s,e,m,q⟩:=j r oM;exact⟨g,s,e,by rw[m,hg],q⟩;simp only[hg];exact c i (by rw[fW] at a;omega) (by rw[fW] at f;omega)
theorem jw.drop {g b:Nat} (h:jw S w (fw ⟨g,b,fr⟩) l) (k:Nat):jw S w (fw ⟨g,b+k * 3,fr⟩) (l.drop k):=by
 obtain⟨KC,c,p,f⟩:=h;refine⟨KC.drop k,by simp[c],?_,fun i a j=>?_⟩;rw[Ng (s3 c f)];intro t r;rw[gi] at r;obtain⟨m,j8,e,q,s⟩:=p (k * 3+t) oM;obtain⟨rfl,rfl⟩:g=m/\b=j8:=by simpa using e
 exact⟨g,b+k * 3,rfl,by rw[Nat.add_assoc,q,hl],s⟩;simp only[hl];exact f (k+i) (by rw[gi] at a;omega) (by rw[gi] at j;omega)
theorem jw.get (h:jw S w o l) (E:i<l.length):
  ∃g b m c1 k f,o=fw ⟨g,b,fr⟩/\S g/\w.cell? ⟨g,b+i * 3,fr⟩=fw (ht m l[i].ps.length c1)/\w.cell? ⟨g,b+i * 3+1,fr⟩=fw (ht k l[i].gC.length f)/\
   w.cell? ⟨g,b+i * 3+2,fr⟩=fw (gE ha l[i].page)/\jf S w (il m c1 k f l[i]) l[i]:=by
 obtain⟨KC,B,q,r⟩:=h;have t:i<KC.length:=oM
 have p:=r i E t;have s:=s3 B r;obtain⟨m,c1,k,f,e⟩:=p.cells;have G:=vr s;obtain⟨g,b,rfl,-,D⟩:=q (i * 3) oM;have j: ∀c,c<3->w.cell? ⟨g,b+(i * 3+c),fr⟩=KC[i][c]?:=by
  intro c F;have u:i * 3+c<KC.flatten.length:=oM
  obtain⟨A,j8,y,C,-⟩:=q (i * 3+c) u;obtain⟨rfl,rfl⟩:g=A/\b=j8:=by simpa using y
  rw[C, <-fA u,kL s i c F,fA t];rfl
 rw[e] at j p;exact⟨g,b,m,c1,k,f,rfl,D,j 0 oM,j 1 oM,j 2 oM,p⟩
def iM (S:Nat->Prop) (b0:Nat) (w:fR) (v:fL) (l:List Nd):Prop:=
 ∃KC:List (List fL),KC.length=l.length/\w.ownsRow b0 95 3 v l.length KC.flatten/\ ∀(i:Nat) (h:i<l.length) (h':i<KC.length),jf (fun b=>S b/\v.ownBlock≠fw b) w KC[i] l[i]
theorem iM.empty (S:Nat->Prop) (w:fR) (b0 g:Nat) (f:g=w.heap.size) (c:b0<=g):iM S b0 (w.alloc (hG #[] 95)) (ht (fw ⟨g,0,fr⟩) 0 0) []:=
 ⟨[],rfl,tu w b0 g _ 3 f c,fun i b=>by simp at b⟩
theorem iM.up (h:iM S b0 w v l) (k: ∀b,S b->T b):iM T b0 w v l:=by
 obtain⟨KC,f,g,j⟩:=h;exact⟨KC,f,g,fun i a b=>(j i a b).up fun b c=>⟨k b c.1,c.2⟩⟩
theorem iM.stays (h:iM S b0 w v l) (k: ∀b,S b->b<w.heap.size) (c:fz w.heap.size w w'):iM S b0 w' v l:=by
 obtain⟨KC,f,g,j⟩:=h;exact⟨KC,f,nD g c,fun i a b=>(j i a b).keep (fun b m=>k b m.1) c⟩
theorem iM.app {m:List Nd} {KM:List (List fL)} (f:KC.length=l.length) (q: ∀(i:Nat) (h:i<l.length) (p:i<KC.length),jf (fun b=>S b/\v.ownBlock≠fw b) w KC[i] l[i]) (g: ∀b,S b->b<w.heap.size)
  (y:KM.length=m.length) (A: ∀(i:Nat) (h:i<m.length) (p:i<KM.length),jf (fun b=>S b/\v.ownBlock≠fw b) w KM[i] m[i])
  (u:w'.ownsRow b0 95 3 v' (l.length+m.length) (KC.flatten++KM.flatten)) (s:w.grownBy w' v.ownBlock) (r:v'.ownBlock=v.ownBlock\/v'.ownBlock=fw w.heap.size):iM S b0 w' v' (l++m):=by
 have k: ∀{cs:List fL} {n:Nd},jf (fun b=>S b/\v.ownBlock≠fw b) w cs n->jf (fun b=>S b/\v'.ownBlock≠fw b) w' cs n:=fun t=>
  t.same (fun b c=>s.block b (g b c.1) fun e=>c.2 e.symm) fun b c=>⟨c.1,fun e=>by rcases r with a|a;exact c.2 (a▸e);rw[a] at e;have:=g b c.1;simp at e;omega⟩
 refine⟨KC++KM,by simp[f,y],by rw[iI,gB];exact u,fun i a b=>?_⟩
 by_cases j:i<l.length
 rw[fN j,fN oM];exact k (q i j oM);rw[iI] at a;rw[fM oM,fM oM];simp only[f];exact k (A (i - l.length) oM oM)
theorem iM.done (h:iM S b0 w v l): ∃o c,v= ht o l.length c/\jk o l.length c/\jw (fun b=>S b\/(b0<=b/\b<w.heap.size)) w o l:=by
 obtain⟨KC,g,j,k⟩:=h;obtain⟨o,c,e,p,m,-⟩:=nC j;exact⟨o,c,e,p,KC,g,m.mono fun b f=> .inr f,fun i a b=>(k i a b).up fun b f=> .inl f.1⟩
def oq (S:Nat->Prop) (w:fR) (l:List Nd) (e:Ending) (w':fR):Prop:=
 fz w.heap.size w w'/\ ∃o c,e= .returned (ht o l.length c)/\jk o l.length c/\jw (fun b=>S b\/(w.heap.size<=b/\b<w'.heap.size)) w' o l
def lv (S:Nat->Prop) (w:fR) (n:Nd) (e:Ending) (w':fR):Prop:=
 fz w.heap.size w w'/\ ∃po pc ko kc,e= .returned (hF (il po pc ko kc n).toArray)/\jf (fun b=>S b\/(w.heap.size<=b/\b<w'.heap.size)) w' (il po pc ko kc n) n
def s4 (S:Nat->Prop) (l:List Nd):mS:=⟨fun r=> ht (jK (r.x 0)) l.length (j3 (r.x 0)),fun r W=>jk (jK (r.x 0)) l.length (j3 (r.x 0))/\jw (fun b=>S b\/(r.lo<=b/\b<r.hi)) W (jK (r.x 0)) l⟩
theorem yg {f:FuncId} {args:Array fL} (j: ∀b,S b->b<W.heap.size) (h:gj fJ f args W (oq S W l)):gj fJ f args W fun e w'=> ∃u,e= .returned u/\pR (s4 S l) W u w':=
 h.mono fun _ w' ⟨hb,o,c,he,hs,hn⟩=>⟨_,he,hb,fun _=> ht o l.length c,rfl,fun p k=>⟨hs,hn.keep (fun b g=>by
  have m:=hb.size;rcases g with g|g;. have:=j b g;omega
  . exact g.2) k⟩⟩
theorem Gb {h:Nat} (t: ∀k∈gC,Tm 2 4 h k) (s:jZ (gC.map Nd.iv).flatten):Cg gC:=by
 have g: ∀(b:Nat) (c:b<gC.length),∃v r,gC[b].iv=(gC[b].ie,v)::r:=fun b c=>(t _ (List.getElem_mem c)).qO oF;have j:(gC.map Nd.iv).Pairwise fun a m=> ∀x∈a,∀u∈m,iB x.1 u.1=true:=(List.pairwise_flatten.1 s).2;rw[List.pairwise_map] at j;intro i b f c y
 by_cases e:i=b
 subst e;exact tB _;obtain⟨v,r,p⟩:=g i f;obtain⟨v',A,q⟩:=g b c;exact wN (List.pairwise_iff_getElem.1 j i b f c oM (gC[i].ie,v) (by rw[p];simp) (gC[b].ie,v') (by rw[q];simp))
theorem Gc {l:List Kv}:kX l=fI↔ ∀i (h:i+1<l.length),iB l[i].1 l[i+1].1=true:=by
 induction l with
 | nil=>simp[kX]
 | cons a l g=>
  cases l with
  | nil=>simp[kX]
  | cons j k=>
   rw[kX,Bool.and_eq_true,g];constructor;.
    rintro⟨c,f⟩ i b;cases i with
    | zero=>exact c
    | succ i=>exact f i (by simp at b |-; omega)
   intro h;exact⟨h 0 oC,fun i b=>h (i+1) (by simp at b |-; omega)⟩
theorem xq {l:List Kv} (h:gO S w o (gV l)) (t:i<l.length):
  ∃g b,o=fw ⟨g,b,fr⟩/\S g/\w.cell? ⟨g,b+i * 2,fr⟩=fw (hA l[i].1)/\w.cell? ⟨g,b+i * 2+1,fr⟩=fw (hA l[i].2):=by
 have u:=uJ l;obtain⟨j,k⟩:=yZ t;have c:i * 2<(gV l).length:=oM
 have f:i * 2+1<(gV l).length:=oM
 obtain⟨g,b,rfl,q,s⟩:=h (i * 2) c;obtain⟨p,j8,m,r,-⟩:=h (i * 2+1) f;obtain⟨rfl,rfl⟩:g=p/\b=j8:=by simpa using m
 refine⟨g,b,rfl,s,?_,?_⟩;rw[q, <-fA c,j];rw[Nat.add_assoc,r, <-fA f,k]
theorem Nh (n:Nd) (h:Nat) (po ko:Option Addr) (pc kc:Nat) (w:fR) (E:mU w (il po pc ko kc n) n) (j:Hb h n) (al:h<=1000000) (R:n.iv.length<=1000000):
  gj fJ 56 #[hF (il po pc ko kc n).toArray] w fun e w'=>e= .returned (hE (vH n))/\fz w.heap.size w w':=by
 have y: ∀W,fz w.heap.size w W->_:=fun W j=>F7 n po ko pc kc W (E.stays j) R;have u: ∀W,fz w.heap.size w W->_:=fun W aC=>MZ n h po ko pc kc W (E.stays aC) j al;have A: ∀W,fz w.heap.size w W->_:=fun W j=>M0 n po ko pc kc W (E.stays j);obtain⟨l,H⟩:=nM n.iv;obtain⟨q,N⟩:=nM n.dep;obtain⟨ax,V⟩:=nM n.kj;obtain⟨r,U⟩:=nM (vH n);have aL:q<=1000000:=by have:=j.dep;omega
 have ar:(kX l&&decide (0<q)&& !ax)=r:=by rw[<-U, <-H, <-N, <-V];rfl
 obtain⟨T,F⟩:=nM l.length;have aQ:T<=1000000:=by rw[<-F, <-H];exact R
 rw[H,F] at y;rw[N] at u;rw[V] at A;rw[U];unfold il at y u A |-;obtain⟨ab,aq⟩:=nM n.ps.length;obtain⟨mk,ao⟩:=nM n.gC.length;obtain⟨aa,ap⟩:=nM n.page;rw[aq,ao,ap] at y u A |-;have af:=gF y;have ae:=gF u;have ag:=gF A;have I:=gF ar;have ad:=gF F;clear y u A H N V U ar F R aq ao ap E j al;have ac:Bx (w.alloc (hG #[ht po ab pc, ht ko mk kc, gE ha aa] 95)) w.heap.size #[ht po ab pc, ht ko mk kc, gE ha aa] 95:=Bx.new w _ _;obtain⟨p,D⟩:=ac.c2;go_enter func56,ntmps56;go_wp2_with fail;refine(af.o _ (Below.one _ _)).mono ?_;rintro e ay ⟨o,aH,rfl,au,C,L⟩;have av:=ac.gD L;have s:=(Below.one w (hG #[ht po ab pc, ht ko mk kc, gE ha aa] 95)).trans (Below.mono L oC);have aK:=(ox au).1;clear af L au p D ac;go_wp2
 go_loopw [4] (fun i wr=> ∃c:Nat,1<=c/\i= gE ha c/\(c<=T\/c=1)/\Hid (∀b (G:b+1<l.length),b+1<c->iB l[b].1 l[b+1].1=fI)/\fz ay.heap.size ay wr) (fun i _=>T - (intOf i).toNat)
 case atStart=>exact⟨1,oM,rfl, .inr rfl,gF fun b G aN=>oM,fF _ _⟩
 case round=>
  obtain⟨c,aP,rfl,aO,m,f⟩:=hrel
  by_cases aF:c<T
  .
   obtain⟨b,rfl⟩: ∃b,c=b+1:=⟨c - 1,oM⟩;have an:b+1<l.length:=by rw[ad.o];exact aF
   obtain⟨ah,aG,rfl,O,Z,-⟩:=xq C an;obtain⟨aB,j8,J,-,Y,-⟩:=xq C (show b<l.length by omega);obtain⟨rfl,rfl⟩:ah=aB/\aG=j8:=by simpa using J
   have aI:=(f.cell O).trans Y;have aJ:=(f.cell O).trans Z;have aR:ah<wr.heap.size:=iU O f.size;cases B:iB l[b].1 l[b+1].1 with
   | true=>
    have g:Hid (∀i (am:i+1<l.length),i+1<b+1+1->iB l[i].1 l[i+1].1=fI):=gF (fun i am aM=>by
     by_cases e:i=b
     subst e;exact B;exact m.o i am oM)
    unfold iB at B;clear Y Z C J m;go_upto_region 5 with fail
    go_quiet (fail);go_wp2;go_roundw;case rel=>exact⟨b+1+1,oM,oQ, .inl oM,g,Below.drewN f _⟩
    case measure=>simp[intOf];omega
   | false=>
    have g:Hid (r=ft):=gF (by
     rw[<-I.o];have:kX l=false:=by
      cases h:kX l;. rfl
      . rw[Gc.1 h b an] at B;cases B
     rw[this];rfl)
    unfold iB at B;have k:=gF (Below.then s f (by have:=s.size;omega));clear Y Z C J m;go_upto_region 5 with fail
    go_quiet (fail);go_wp2;go_ret;exact⟨by rw[g.o];rfl,Below.drewN k.o _⟩
  have az:Hid (kX l=fI):=gF (Gc.2 fun b G=>m.o b G (by rw[ad.o] at G;omega));have k:=Below.then s f (by have:=s.size;omega);have X:=av.gD f;obtain⟨p,D⟩:=X.c2;have ai:=ae.o _ k;clear m C f av s ae;go_wp2_with fail;refine ai.mono ?_;rintro e aS ⟨rfl,M⟩;have aw:=X.gD M;have t:=Below.then k M k.size;have aj:=ag.o _ t;clear X M k ai p D ag;obtain⟨p,D⟩:=aw.c2
  by_cases aD:0<q
  .
   have aE:(0:Int)<(q:Int):=oM
   go_wp2_with fail;refine aj.mono ?_;rintro e aT ⟨rfl,ak⟩;have aA:=gF (Below.then t ak t.size);have g:Hid ((!ax)=r):=gF (by rw[<-I.o,az.o,decide_eq_true aD];rfl);clear aj ak t aw p D;go_wp2;go_ret;exact⟨by rw[<-g.o];rfl,aA.o⟩
  obtain rfl:q=0:=oM
  have g:Hid (r=ft):=gF (by rw[<-I.o];simp);have aE: ¬(0:Int)<0:=oM
  go_wp2;go_ret;exact⟨by rw[g.o];rfl,t⟩
theorem Gd (gI gJ:Int) (l:List Int) (t:Option Addr) (y:Nat) (w:fR) (ae:jk t l.length y) (V:l.length<=1000000) (ad:lp S w t l) (N: ∀b,S b->b<w.heap.size) (aB:0<=gI) (aF:gJ<=1000000) (aD:gI+2<=gJ):
  gj fJ 57 #[gE ha gI, gE ha gJ, ht t l.length y] w fun e w'=> ∃o c,e= .returned (ht o (mv gI gJ l).length c)/\
   w'.ownsRow w.heap.size 3 1 (ht o (mv gI gJ l).length c) (mv gI gJ l).length (jI (mv gI gJ l))/\fz w.heap.size w w':=by
 obtain⟨az,R,ag,ah,ai⟩:=info_parts A9;have u:=gF (gK R (gK ag (gK ah ai)));clear R ag ah ai;obtain⟨M,J⟩: ∃M:Nat,gJ=gI+2+M:=⟨(gJ - gI - 2).toNat,oM⟩;have L:(gJ - gI - 2).toNat=M:=oM
 have aC:M<=1000000:=oM
 have F:=gF L;have an:=gF J;have B: ∀W x,fz w.heap.size w W->gj fJ 94 #[ht t l.length y, gE ha x] W fun e w'=>e= .returned (hE (decide (x∈l)))/\w'=W:=fun W x g=>
  F5 t y l x W (S:=S) ae V (ad.same fun b av=>g.block b (N b av))
 obtain⟨aG,X⟩:=nM l.length;rw[X] at B |-;have ap:=gF B;clear J L B ae ad V X N;go_enter func57,ntmps57;go_wp2
 go_loopw [7,8] (fun v i wr=> ∃(k:Nat) (o:Option Addr) (c:Nat),k<=M/\i= gE ha (gI+2+k)/\v= ht o (kr gI gJ l k).length c/\wr.ownsRow w.heap.size 3 1 (ht o (kr gI gJ l k).length c) (kr gI gJ l k).length (jI (kr gI gJ l k))/\fz w.heap.size w wr) (fun _ i _=>(gJ - intOf i).toNat)
 case atStart=>exact⟨0,_,_,Nat.zero_le _,oC,rfl,tu _ _ _ _ _ rfl (fu _),Below.one _ _⟩
 case round=>
  obtain⟨k,o,c,aE,rfl,rfl,j,p⟩:=hrel;have ay:=p.size;have Z:=an.o
  by_cases ax:k<M
  .
   have Y:gI+2+(k:Int)<gJ:=oM
   have s:=ap.o wr (gI+2+(k:Int)) p;have m:=gF (Eg (gI:=gI) (gJ:=gJ) (l:=l) (k:=k) (by rw[F.o];exact ax));have U:=Ei gI gJ l k;obtain⟨h,I⟩:=nM (kr gI gJ l k);rw[I] at j m U |-;obtain⟨f,D⟩:=nM (gI+2+(k:Int));have aa:wrap64 (f+1)=f+1:=IntWalk.wrap64_in _ oM;rw[D] at s m Y |-;have G:=gF D;obtain⟨E,C⟩:=nM h.length;rw[C] at j U |-;have A:=gF C;clear I D C Z;cases g:decide (f∈l) with
   | true=>
    have r:=of_decide_eq_true g;rw[g] at s;have q:Hid (kr gI gJ l (k+1)=h):=gF (by rw[m.o,if_pos r,fH]);clear g r m;go_wp2_with fail;refine s.mono ?_;rintro e ak ⟨rfl,rfl⟩;go_wp2;go_roundw;case rel=>exact⟨k+1,o,c,oM,by have:=G.o;rw[aa,show gI+2+((k+1:Nat):Int)=f+1 by omega],by rw[q.o,A.o],by rw[q.o,A.o];exact j,p⟩
    case measure=>simp[intOf];omega
   | false=>
    have r:=of_decide_eq_false g;rw[g] at s;have q:Hid (kr gI gJ l (k+1)=h++[f]):=gF (by rw[m.o,if_neg r]);clear g r m;have ab:=j.alloc (.cells #[.int .i64 f] 3);have al:Hid (∀aj∈[Value.int .i64 f],aj.oneCell'=fI):=gF (by intro aj af;simp at af;subst af;rfl);have ao:Hid (gO (· =wr.heap.size) (wr.alloc (.cells #[.int .i64 f] 3)) (fw ⟨wr.heap.size,0,fr⟩) [.int .i64 f]):=gF (gO.bx (Bx.new wr #[.int .i64 f] 3));have am:=gF p;clear p;go_wp2_with fail;refine s.mono ?_;rintro e ak ⟨rfl,rfl⟩;go_wp2_with (at_builtin;refine o8 rfl _ _ 31 rfl w.heap.size 3 az _ 1 8 hf u.o.1 u.o.2.1 u.o.2.2.1 u.o.2.2.2 rfl oF (.slice o E c) E (jI h) rfl ab (fw ⟨ak.heap.size,0,fr⟩) 1 1 [.int .i64 f] rfl (by intro e;cases e) rfl ao.o al.o (by unfold ga;omega) oM oN ?_;intro aH aI ac aw;obtain⟨aA,ar,rfl⟩:=pD ac);go_roundw;case rel=>
     have H:(h++[f]).length=E+1:=by rw[iI,A.o];rfl
     have au:jI (h++[f])=jI h++[gE ha f]:=by simp[jI]
     refine⟨k+1,aA,ar,oM,by have:=G.o;rw[aa,show gI+2+((k+1:Nat):Int)=f+1 by omega],by rw[q.o,H],by rw[q.o,H,au];exact ac,?_⟩;exact Below.jq (am.o.alloc ay _) ab aw oN
    case measure=>simp[intOf];omega
  obtain rfl:k=M:=oM
  have Y: ¬gI+2+(k:Int)<gJ:=oM
  have O:kr gI gJ l k=mv gI gJ l:=by rw[<-Eh,F.o]
  rw[O] at j |-;have aq:=gF j;clear j Z O;go_wp2;go_ret;exact⟨o,c,rfl,aq.o,p⟩
theorem Ni {key:ByteArray} (u:Cg gC) {k:Nat} (t:k<gC.length) (f:k=0\/iB key gC[k].ie=ft) (m: ∀j (C:j<gC.length),k<j->iB key gC[j].ie=fI):ly gC key=k:=by
 unfold ly;have D:gC.tail.length=gC.length - 1:=List.length_tail;obtain⟨b,c⟩:=nM ((gC.tail.takeWhile fun k=> !iB key k.ie).length);rw[c];have A:b<=gC.tail.length:=by rw[<-c];exact(gy _).length_le
 by_cases E:b<k
 have s:b<gC.tail.length:=oM
 have h:=EI (p:=fun k:Nd=> !iB key k.ie) (l:=gC.tail) (by rw[c];exact s);simp only[c] at h;rw[hh] at h;have q:=u (b+1) k oM t oM;rcases f with f|f;omega;have y:iB key (gC[b+1]' oM).ie=true:=by simpa using h
 have:=Dw y q;rw[f] at this;cases this
 by_cases B:k<b
 have r:(gC.tail[b - 1]' oM)∈gC.tail.takeWhile fun k=> !iB key k.ie:=by have e:=List.prefix_iff_eq_take.1 (gy (fun k:Nd=> !iB key k.ie) (l:=gC.tail));rw[c] at e;rw[e];exact List.mem_take_iff_getElem.2 ⟨b - 1,oM,rfl⟩
 have g:=xS r;rw[hh] at g;have:=m (b - 1+1) oM oM;rw[this] at g;cases g;omega
theorem Ge (n:Nd) (key:ByteArray) (po ko:Option Addr) (pc kc:Nat) (w:fR) (H:mU w (il po pc ko kc n) n) (ab: ∀k∈n.gC,k.first=fI) (af:Cg n.gC) (Y:n.gC≠[]):
  gj fJ 181 #[hF (il po pc ko kc n).toArray, hA key] w fun e w'=>e= .returned (gE ha (ly n.gC key))/\fz w.heap.size w w':=by
 have B:=(ox H.lens.2.1);unfold ga at B;have ar:0<n.gC.length:=List.length_pos_iff.2 Y;obtain⟨m,A⟩:=nM n.gC.length;have G:il po pc ko kc n=[ht po n.ps.length pc, ht ko m kc, gE ha n.page]:=by unfold il;rw[A]
 obtain⟨N,ae⟩:=nM n.ps.length;obtain⟨M,ad⟩:=nM n.page;obtain⟨ao,I⟩:=nM (ly n.gC key);rw[ae,ad] at G;rw[G,I];rw[A] at B ar;obtain⟨aF,B⟩:=B;have E:=gF A;have am:=gF H;have an:=gF af;have ak:=gF I;have al:=gF ab;have aj:Bx (w.alloc (hG #[ht po N pc, ht ko m kc, gE ha M] 95)) w.heap.size #[ht po N pc, ht ko m kc, gE ha M] 95:=Bx.new w _ _;clear A G ae ad I H af ab Y;go_enter func181,ntmps181;go_wp2
 go_loopw [5,6] (fun ay i wr=> ∃k b:Nat,1<=b/\b<=m/\k<b/\i= gE ha b/\ay= gE ha k/\Hid ((k=0\/ ∀f:k<n.gC.length,iB key n.gC[k].ie=ft)/\ ∀i (c:i<n.gC.length),k<i->i<b->iB key n.gC[i].ie=fI)/\Bx wr w.heap.size #[ht po N pc, ht ko m kc, gE ha M] 95/\fz w.heap.size w wr) (fun _ i _=>m - (intOf i).toNat)
 case atStart=>exact⟨0,1,oM,oM,oM,rfl,rfl,gF ⟨.inl rfl,fun i c F Z=>oM⟩,aj,Below.one _ _⟩
 case round=>
  clear aj;obtain⟨k,b,aD,aE,au,rfl,rfl,r,x,q⟩:=hrel;obtain⟨R,ai⟩:=x.c2;have ah:=q.size
  by_cases av:b<m
  .
   have J:b<n.gC.length:=by rw[E.o];exact av
   obtain⟨aB,aG,az,ap,ax,aq,rfl,aC,-,U,V,X,aa⟩:=am.o.sZ q J;have y:=DW n.gC[b] az ax ap aq _ aa (al.o _ (List.getElem_mem J));obtain⟨j,L⟩:=nM ((n.gC[b]'J).ie);rw[L] at y;unfold il at y;have t:=gF y;have O:=gF L;have s:=gF q;have u:=gF x;clear y aa L q x;cases h:iB key j with
   | true=>
    have C:gm j.toList key.toList=false:=wN h;have ag:(j.toList==key.toList)=false:=by rw[beq_eq_false_iff_ne];intro e;exact q9 h (oB e).symm
    have D:Hid ((k=0\/ ∀f:k<n.gC.length,iB key n.gC[k].ie=ft)/\ ∀i (c:i<n.gC.length),k<i->i<b+1->iB key n.gC[i].ie=fI):=gF ⟨r.o.1,fun i c F Z=>by
     by_cases e:i=b
     subst e;rw[O.o];exact h;exact r.o.2 i c F oM⟩
    clear h;go_wp2_with fail;refine t.o.mono ?_;rintro e aA ⟨rfl,g⟩;have p:=gF (gK (u.o.gD g) (Below.then s.o g ah));clear s t u U V X R ai g;go_wp2;go_roundw;case rel=>exact⟨k,b+1,oM,oM,oM,oQ,rfl,D,p.o.1,p.o.2⟩
    case measure=>simp[intOf];omega
   | false=>
    have D:Hid ((b=0\/ ∀f:b<n.gC.length,iB key n.gC[b].ie=ft)/\ ∀i (c:i<n.gC.length),b<i->i<b+1->iB key n.gC[i].ie=fI):=gF ⟨.inr fun f=>by rw[O.o];exact h,fun i c F Z=>oM⟩;cases C:iB j key
    case' false=>have ag:(j.toList==key.toList)=true:=by rw[tC C h];simp
    case' true=>have ag:(j.toList==key.toList)=false:=by rw[beq_eq_false_iff_ne];intro e;exact q9 C (oB e)
    all_goals
     unfold iB at C;clear h;go_wp2_with fail;refine t.o.mono ?_;rintro e aA ⟨rfl,g⟩;have p:=gF (gK (u.o.gD g) (Below.then s.o g ah));clear s t u U V X R ai g;go_wp2;go_roundw;case rel=>exact⟨b,b+1,oM,oM,oM,oQ,rfl,D,p.o.1,p.o.2⟩
     case measure=>simp[intOf];omega
  obtain rfl:b=m:=oM
  have aw:ao=k:=by
   rw[<-ak.o];have ac:k<n.gC.length:=by rw[E.o];exact au
   exact Ni an.o ac (r.o.1.imp id fun f=>f ac) fun i c f=>r.o.2 i c f (by rw[E.o] at c;exact c)
  subst aw;go_wp2;go_ret;exact⟨rfl,q⟩
def lX (l:List Kv) (x:Kv):List Kv:=l.takeWhile (fun p=>iB p.1 x.1)++x::(l.dropWhile fun p=>iB p.1 x.1).filter fun p=>decide (p.1≠x.1)
theorem Gf {l:List Kv} (h:jZ l) (x:Kv):lX l x=iN l x:=by
 unfold lX iN;congr 2;have k:jZ (l.dropWhile fun b=>iB b.1 x.1):=h.sublist (List.dropWhile_suffix _).sublist;cases e:l.dropWhile fun b=>iB b.1 x.1 with
 | nil=>rfl
 | cons a f=>
  rw[e] at k;have p:iB a.1 x.1=false:=by have:=List.head_dropWhile_not (fun b:Kv=>iB b.1 x.1) (l:=l) (by rw[e];simp);simpa[e] using this
  have q: ∀b∈f,iB x.1 b.1=true:=fun b j=>AK p ((List.pairwise_cons.1 k).1 b j);have g: ∀b∈f,decide (b.1≠x.1)=true:=fun b j=>by have:=q9 (q b j);simp;exact fun e=>this e.symm
  by_cases c:a.1=x.1
  .
   rw[List.filter_cons_of_neg (by simp[c]),gL.2 g,List.dropWhile_cons_of_pos (by simp[c])];cases f with
   | nil=>rfl
   | cons m f=>rw[gq (by have:=g m oC;simpa using this)]
  rw[List.filter_cons_of_pos (by simp[c]),gL.2 g,gq (by simp[c])]
theorem Nj {l:List Kv} (h: ∀p∈l,iB p.1 x.1=fI):lX l x=l++[x]:=by
 unfold lX;have c:=Bv (b:=[]) h;have f:=Bw (b:=[]) h;rw[fH,gP,fH] at c;rw[fH,gZ] at f;rw[c,f];rfl
theorem Nk {l:List Kv} (h: ∀p∈l,iB p.1 x.1=fI) (b:iB e.1 x.1=ft):lX (l++[e]) x=l++[x]++(if e.1=x.1 then [] else [e]):=by
 unfold lX;rw[Bv h,Bw h];simp only[gz,gP,gM,gZ,b,hd,if_false,fH,List.append_assoc]
 by_cases c:e.1=x.1<;>simp[c]
theorem Nl {l:List Kv} (h: ∃p∈l,iB p.1 x.1=ft):lX (l++[e]) x=lX l x++(if e.1=x.1 then [] else [e]):=by
 have t: ∀l:List Kv,(∃p∈l,iB p.1 x.1=ft)->(l++[e]).takeWhile (fun p=>iB p.1 x.1)=l.takeWhile (fun p=>iB p.1 x.1)/\(l++[e]).dropWhile (fun p=>iB p.1 x.1)=l.dropWhile (fun p=>iB p.1 x.1)++[e]:=by
  intro l
  induction l with
  | nil=>rintro⟨p,b,_⟩;cases b
  | cons a u q=>
   rintro⟨p,b,f⟩
   by_cases c:iB a.1 x.1=fI
   obtain⟨k,m⟩:=q (by
    rcases j4.1 b with rfl|b;. rw[c] at f;cases f
    . exact⟨p,b,f⟩)
   simp only[List.cons_append,gz,gM,c,if_true,k,m,and_self];have g:iB a.1 x.1=false:=by simpa using c
   simp[g]
 obtain⟨r,s⟩:=t l h;unfold lX;rw[r,s,List.filter_append]
 by_cases j:e.1=x.1<;>simp[j]
theorem Gg (l:List Kv) (x:Kv):(lX l x).length<=l.length+1:=by
 unfold lX;have c:=List.length_filter_le (fun p:Kv=>decide (p.1≠x.1)) (l.dropWhile fun p=>iB p.1 x.1);have b:=congrArg List.length (List.takeWhile_append_dropWhile (p:=fun p:Kv=>iB p.1 x.1) (l:=l));rw[iI] at b;rw[iI,j1];omega
def kQ (l:List Kv) (x:Kv) (put:Bool) (k:Nat):List Kv:=if put then lX (l.take k) x else l.take k
theorem Nn (l:List Kv) (x:Kv) (aV:Option Addr) (bd:Nat) (w:fR) (a9:gO S w aV (gV l)) (a':jk aV l.length bd) (a2: ∀b,S b->b<w.heap.size) (bi:l.length<=1000000) (a3:jZ l):
  gj fJ 180 #[ht aV l.length bd, hF #[hA x.1, hA x.2]] w fun e w'=> ∃o c,e= .returned (ht o (iN l x).length c)/\
   w'.ownsRow w.heap.size 77 2 (ht o (iN l x).length c) (iN l x).length (gV (iN l x))/\fz w.heap.size w w':=by
 obtain⟨aG,a5,ba,bb,bc⟩:=info_parts sy;have s:=gF (gK a5 (gK ba (gK bb bc)));clear a5 ba bb bc;rw[<-Gf a3];clear a3;obtain⟨n,aT⟩:=nM l.length;obtain⟨f,h⟩:=x;have bk:=(ox a').1;rw[aT] at bi bk |-;have aX:=gF aT;have aY:=gF (gK a9 a2);have be:Bx (w.alloc (hG #[hA f, hA h] 77)) w.heap.size #[hA f, hA h] 77:=Bx.new w _ _;clear aT a' a9 a2;go_enter func180,ntmps180;go_wp2
 go_loopw [5,6,7] (fun v bm i wr=> ∃(k:Nat) (ac:Bool) (ak:Option Addr) (aj:Nat),k<=n/\i= gE ha k/\bm= hE ac/\v= ht ak (kQ l (f,h) ac k).length aj/\wr.ownsRow (w.heap.size+1) 77 2 (ht ak (kQ l (f,h) ac k).length aj) (kQ l (f,h) ac k).length (gV (kQ l (f,h) ac k))/\
  Bx wr w.heap.size #[hA f, hA h] 77/\fz w.heap.size w wr/\Hid (if ac then∃p∈l.take k,iB p.1 f=ft else∀p∈l.take k,iB p.1 f=fI)) (fun _ _ i _=>n - (intOf i).toNat)
 case atStart=>exact⟨0,ft,fw ⟨w.heap.size+1,0,fr⟩,0,oM,rfl,rfl,by simp[kQ],by simpa[kQ,gV] using tu _ (w.heap.size+1) _ 77 2 oC (fu _),be.alloc _,(Below.one _ _).alloc oC _,gF oC⟩
 case round=>
  clear be;obtain⟨k,ac,ak,aj,bq,rfl,rfl,rfl,X,aI,G,al⟩:=hrel;have aO:=G.size;obtain⟨A,C⟩:=aI.c2;have a0:(kQ l (f,h) ac k).length<=k+1:=by
   have:=Gg (l.take k) (f,h);have bo:(l.take k).length<=k:=by rw[fW];omega
   unfold kQ;split<;>omega
  obtain⟨q,aC⟩:=nM (kQ l (f,h) ac k);rw[aC] at X a0 |-;obtain⟨D,aD⟩:=nM q.length;rw[aD] at X a0 |-;have ay:=gF aD;have aJ:=gF aC;have aB:=gF X;have aQ:=gF G;have ax:=gF aI
  by_cases bj:k<n
  .
   have a7:k<l.length:=by rw[aX.o];exact bj
   obtain⟨bh,br,rfl,a4,aK,aL⟩:=xq aY.o.1 a7;have aU:l.take (k+1)=l.take k++[l[k]]:=List.take_succ_eq_append_getElem a7;obtain⟨⟨g,j⟩,a6⟩: ∃p,l[k]=p:=⟨_,rfl⟩;rw[a6] at aK aL aU;simp only at aK aL;have m:=aY.o.2 bh a4;have az:=gF aU;have y:=gF (gK aK aL);clear aD aC a6 aK aL a4 aU X aI A C;cases ac
   case' false=>
    have au:q=l.take k:=aJ.o.symm;have av: ∀p∈l.take k,iB p.1 f=true:=by have:=al.o;simpa using this
    cases an:iB g f
    case' true=>
     have bn:gm g.toList f.toList=true:=an;have ao:(g.toList==f.toList)=false:=by rw[beq_eq_false_iff_ne];exact fun e=>q9 an (oB e)
     have Y:Hid (kQ l (f,h) ft (k+1)=q++[(g,j)]):=gF (by unfold kQ;rw[au];exact az.o);have aw:Hid (if ft=fI then∃p∈l.take (k+1),iB p.1 f=ft else∀p∈l.take (k+1),iB p.1 f=fI):=gF (by
      simp only[hd,if_false];intro p aN;rw[az.o] at aN;rcases jD.1 aN with aS|aS;. exact av p aS
      . rw[lx.1 aS];exact an)
     clear an av au al;have I:=(G.cell m).trans y.o.1;have J:=(G.cell m).trans y.o.2;have N:=iU m G.size;obtain⟨A,C⟩:=ax.o.c2;have aa:=jv.cells wr;go_upto_region 6 with fail
     refine p3 oP oP ?_;repeat (any_goals (first|go_big_quiet_skip| (go_big_quiet_want;go_big_quiet_op;first|go_big_quiet_on|go_big_quiet_call ((fail)))|quiet_step ((fail))))
     refine fX ?_;rintro ar ⟨⟨_,L⟩,rfl⟩;have r:=Below.then G L aO;have H:=ax.o.gD L;clear I J N A C aa;have I:=(r.cell m).trans y.o.1;have J:=(r.cell m).trans y.o.2;have N:=iU m r.size;obtain⟨A,C⟩:=H.c2;have aE:=nD aB.o L;have aa:=jv.cells ar;go_upto_region 9 with fail
     refine p3 oP oP ?_;repeat (any_goals (first|go_big_quiet_skip| (go_big_quiet_want;go_big_quiet_op;first|go_big_quiet_on|go_big_quiet_call ((fail)))|quiet_step ((fail))))
     refine fX ?_;rintro E ⟨⟨_,M⟩,rfl⟩;have B:=Below.then r M r.size;have Z:=H.gD M;have X:=nD aE M;clear I J N A C aa aE H r L M G;have I:=(B.cell m).trans y.o.1;have J:=(B.cell m).trans y.o.2;have N:=iU m B.size;obtain⟨A,C⟩:=Z.c2;have t:=X.alloc (hG #[hA g, hA j] 77);have ad:Hid (∀R∈[fD g,fD j],R.oneCell'=fI):=gF (by intro R O;simp at O;rcases O with rfl|rfl<;>rfl)
     have ae:Hid (gO (· =E.heap.size) (E.alloc (hG #[hA g, hA j] 77)) (fw ⟨E.heap.size,0,fr⟩) [hA g, hA j]):=gF (gO.bx (Bx.new E #[hA g, hA j] 77));have aq:=Z.alloc (hG #[hA g, hA j] 77);have ag:=B.alloc B.size (hG #[hA g, hA j] 77);have aF:=Z.lt;go_wp2_with
      (at_builtin;refine o8 rfl _ _ 41 rfl (w.heap.size+1) 77 aG _ 2 32 fQ s.o.1 s.o.2.1 s.o.2.2.1 s.o.2.2.2 rfl oF (.slice ak D aj) D (gV q) rfl t (fw ⟨E.heap.size,0,fr⟩) 1 1 [.string g, .string j] rfl (by intro e;cases e) rfl ae.o ad.o (by unfold ga;omega) oM oN ?_;intro aP aH u V;obtain⟨ai,ah,rfl⟩:=pD u)
     have ap:=aq.grown V (fun e=>by have:=(t.lt _ e.symm).1;omega);have af:=Below.jq ag (qL t (fV _)) V oN;go_roundw;case rel=>
      have F:(q++[(g,j)]).length=D+1:=by rw[iI,ay.o];rfl
      have ab:gV (q++[(g,j)])=gV q++[hA g, hA j]:=by rw[sw];rfl
      exact⟨k+1,ft,ai,ah,oM,oQ,rfl,by rw[Y.o,F],by rw[Y.o,F,ab];exact u,ap,af,aw⟩
     case measure=>simp[intOf];omega
    case' false=>
     have bn:gm g.toList f.toList=false:=an;have am:Hid (kQ l (f,h) fI (k+1)=q++[(f,h)]++(if g=f then [] else [(g,j)])):=gF (by unfold kQ;rw[if_pos rfl,az.o,au];exact Nk av an);have aw:Hid (if fI=fI then∃p∈l.take (k+1),iB p.1 f=ft else∀p∈l.take (k+1),iB p.1 f=fI):=gF (by
      rw[if_pos rfl,az.o];exact⟨(g,j),oC,an⟩)
     clear an av au al;have I:=(G.cell m).trans y.o.1;have J:=(G.cell m).trans y.o.2;have N:=iU m G.size;obtain⟨A,C⟩:=ax.o.c2;have aa:=jv.cells wr;go_upto_region 6 with fail
     refine p3 oP oP ?_;repeat (any_goals (first|go_big_quiet_skip| (go_big_quiet_want;go_big_quiet_op;first|go_big_quiet_on|go_big_quiet_call ((fail)))|quiet_step ((fail))))
     refine fX ?_;rintro ar ⟨⟨_,L⟩,rfl⟩;have r:=Below.then aQ.o L aO;have H:=ax.o.gD L;clear I J N A C aa G;have aE:=nD aB.o L;obtain⟨A,C⟩:=H.c2;have t:=aE.alloc (hG #[hA f, hA h] 77);have ad:Hid (∀R∈[fD f,fD h],R.oneCell'=fI):=gF (by intro R O;simp at O;rcases O with rfl|rfl<;>rfl)
     have ae:Hid (gO (· =ar.heap.size) (ar.alloc (hG #[hA f, hA h] 77)) (fw ⟨ar.heap.size,0,fr⟩) [hA f, hA h]):=gF (gO.bx (Bx.new ar #[hA f, hA h] 77));have aq:=H.alloc (hG #[hA f, hA h] 77);have ag:=r.alloc r.size (hG #[hA f, hA h] 77);have aF:=H.lt;go_upto_region 9 with
      (at_builtin;refine o8 rfl _ _ 41 rfl (w.heap.size+1) 77 aG _ 2 32 fQ s.o.1 s.o.2.1 s.o.2.2.1 s.o.2.2.2 rfl oF (.slice ak D aj) D (gV q) rfl t (fw ⟨ar.heap.size,0,fr⟩) 1 1 [.string f, .string h] rfl (by intro e;cases e) rfl ae.o ad.o (by unfold ga;omega) oM oN ?_;intro aP aH u V;obtain⟨ai,ah,rfl⟩:=pD u)
     have ap:=aq.grown V (fun e=>by have:=(t.lt _ e.symm).1;omega);have af:=Below.jq ag (qL t (fV _)) V oN;have F:(q++[(f,h)]).length=D+1:=by rw[iI,ay.o];rfl
     have ab:gV (q++[(f,h)])=gV q++[hA f, hA h]:=by rw[sw];rfl
     obtain⟨U,a1⟩:=nM (q++[(f,h)]);rw[a1] at F ab am;rw[<-ab] at u;clear a1 ab A C ae ad t aq ag aF L aE;have r:=af;have H:=ap;obtain⟨aW,rfl⟩:=nP aH;clear af ap;have aA:=gF F;have aR:=gF u;clear F u;have I:=(r.cell m).trans y.o.1;have J:=(r.cell m).trans y.o.2;have N:=iU m r.size;obtain⟨A,C⟩:=H.c2;have aa:=jv.cells aW;cases ao:(g.toList==f.toList)
     case' false=>have Y:Hid (kQ l (f,h) fI (k+1)=U++[(g,j)]):=gF (by rw[am.o,if_neg fun e=>by rw[e] at ao;simp at ao])
     case' true=>have Y:Hid (kQ l (f,h) fI (k+1)=U):=gF (by rw[am.o,if_pos (oB (by simpa using ao)),fH])
     all_goals
      clear am;go_upto_region 9 with fail
      refine p3 oP oP ?_;repeat (any_goals (first|go_big_quiet_skip| (go_big_quiet_want;go_big_quiet_op;first|go_big_quiet_on|go_big_quiet_call ((fail)))|quiet_step ((fail))))
      refine fX ?_;rintro E ⟨⟨_,M⟩,rfl⟩;have B:=Below.then r M r.size;have Z:=H.gD M;have X:=nD aR.o M;clear I J N A C aa H r M;have I:=(B.cell m).trans y.o.1;have J:=(B.cell m).trans y.o.2;have N:=iU m B.size;obtain⟨A,C⟩:=Z.c2
     rotate_left
     case' false=>
      have t:=X.alloc (hG #[hA g, hA j] 77);have ad:Hid (∀R∈[fD g,fD j],R.oneCell'=fI):=gF (by intro R O;simp at O;rcases O with rfl|rfl<;>rfl)
      have ae:Hid (gO (· =E.heap.size) (E.alloc (hG #[hA g, hA j] 77)) (fw ⟨E.heap.size,0,fr⟩) [hA g, hA j]):=gF (gO.bx (Bx.new E #[hA g, hA j] 77));have aq:=Z.alloc (hG #[hA g, hA j] 77);have ag:=B.alloc B.size (hG #[hA g, hA j] 77);have aF:=Z.lt;go_wp2_with
       (at_builtin;refine o8 rfl _ _ 41 rfl (w.heap.size+1) 77 aG _ 2 32 fQ s.o.1 s.o.2.1 s.o.2.2.1 s.o.2.2.2 rfl oF (.slice ai (D+1) ah) (D+1) (gV U) rfl t (fw ⟨E.heap.size,0,fr⟩) 1 1 [.string g, .string j] rfl (by intro e;cases e) rfl ae.o ad.o (by unfold ga;omega) oM oN ?_;intro aP aH u V;obtain⟨ai,ah,rfl⟩:=pD u)
      have ap:=aq.grown V (fun e=>by have:=(t.lt _ e.symm).1;omega);have af:=Below.jq ag (qL t (fV _)) V oN;go_roundw;case rel=>
       have F:(U++[(g,j)]).length=(D+1)+1:=by rw[iI,aA.o];rfl
       have ab:gV (U++[(g,j)])=gV U++[hA g, hA j]:=by rw[sw];rfl
       exact⟨k+1,fI,_,_,oM,oQ,rfl,by rw[Y.o,F],by rw[Y.o,F,ab];exact u,ap,af,aw⟩
      case measure=>simp[intOf];omega
   rotate_left
   case' true=>
    have am:Hid (kQ l (f,h) fI (k+1)=q++(if g=f then [] else [(g,j)])):=gF (by
     rw[<-aJ.o];unfold kQ;rw[if_pos rfl,if_pos rfl,az.o];exact Nl (by have:=al.o;simpa using this))
    have aw:Hid (if fI=fI then∃p∈l.take (k+1),iB p.1 f=ft else∀p∈l.take (k+1),iB p.1 f=fI):=gF (by
     rw[if_pos rfl,az.o];obtain⟨p,aN,bl⟩: ∃p∈l.take k,iB p.1 f=false:=by have:=al.o;simpa using this
     exact⟨p,by simp[aN],bl⟩)
    obtain⟨U,rfl⟩:=nP q;have F:=ay.o;have I:=(G.cell m).trans y.o.1;have J:=(G.cell m).trans y.o.2;have N:=iU m G.size;obtain⟨A,C⟩:=ax.o.c2;have aa:=jv.cells wr;go_upto_region 6 with fail
    refine p3 oP oP ?_;repeat (any_goals (first|go_big_quiet_skip| (go_big_quiet_want;go_big_quiet_op;first|go_big_quiet_on|go_big_quiet_call ((fail)))|quiet_step ((fail))))
    refine fX ?_;rintro aW ⟨⟨_,L⟩,rfl⟩;have r:=Below.then aQ.o L aO;have H:=ax.o.gD L;have u:=nD aB.o L;obtain⟨ai,rfl⟩:=nP ak;obtain⟨ah,rfl⟩:=nP aj;clear I J N A C aa G L al;have aA:=gF F;have aR:=gF u;clear F u;have I:=(r.cell m).trans y.o.1;have J:=(r.cell m).trans y.o.2;have N:=iU m r.size;obtain⟨A,C⟩:=H.c2;have aa:=jv.cells aW;cases ao:(g.toList==f.toList)
    case' false=>have Y:Hid (kQ l (f,h) fI (k+1)=U++[(g,j)]):=gF (by rw[am.o,if_neg fun e=>by rw[e] at ao;simp at ao])
    case' true=>have Y:Hid (kQ l (f,h) fI (k+1)=U):=gF (by rw[am.o,if_pos (oB (by simpa using ao)),fH])
    all_goals
     clear am;go_upto_region 9 with fail
     refine p3 oP oP ?_;repeat (any_goals (first|go_big_quiet_skip| (go_big_quiet_want;go_big_quiet_op;first|go_big_quiet_on|go_big_quiet_call ((fail)))|quiet_step ((fail))))
     refine fX ?_;rintro E ⟨⟨_,M⟩,rfl⟩;have B:=Below.then r M r.size;have Z:=H.gD M;have X:=nD aR.o M;clear I J N A C aa H r M;have I:=(B.cell m).trans y.o.1;have J:=(B.cell m).trans y.o.2;have N:=iU m B.size;obtain⟨A,C⟩:=Z.c2
    rotate_left
    case' false=>
     have t:=X.alloc (hG #[hA g, hA j] 77);have ad:Hid (∀R∈[fD g,fD j],R.oneCell'=fI):=gF (by intro R O;simp at O;rcases O with rfl|rfl<;>rfl)
     have ae:Hid (gO (· =E.heap.size) (E.alloc (hG #[hA g, hA j] 77)) (fw ⟨E.heap.size,0,fr⟩) [hA g, hA j]):=gF (gO.bx (Bx.new E #[hA g, hA j] 77));have aq:=Z.alloc (hG #[hA g, hA j] 77);have ag:=B.alloc B.size (hG #[hA g, hA j] 77);have aF:=Z.lt;go_wp2_with
      (at_builtin;refine o8 rfl _ _ 41 rfl (w.heap.size+1) 77 aG _ 2 32 fQ s.o.1 s.o.2.1 s.o.2.2.1 s.o.2.2.2 rfl oF (.slice ai D ah) D (gV U) rfl t (fw ⟨E.heap.size,0,fr⟩) 1 1 [.string g, .string j] rfl (by intro e;cases e) rfl ae.o ad.o (by unfold ga;omega) oM oN ?_;intro aP aH u V;obtain⟨ai,ah,rfl⟩:=pD u)
     have ap:=aq.grown V (fun e=>by have:=(t.lt _ e.symm).1;omega);have af:=Below.jq ag (qL t (fV _)) V oN;go_roundw;case rel=>
      have F:(U++[(g,j)]).length=D+1:=by rw[iI,aA.o];rfl
      have ab:gV (U++[(g,j)])=gV U++[hA g, hA j]:=by rw[sw];rfl
      exact⟨k+1,fI,_,_,oM,oQ,rfl,by rw[Y.o,F],by rw[Y.o,F,ab];exact u,ap,af,aw⟩
     case measure=>simp[intOf];omega
   all_goals
    go_wp2;go_roundw;case rel=>exact⟨k+1,fI,ai,ah,oM,oQ,rfl,by rw[Y.o,aA.o],by rw[Y.o,aA.o];exact X,Z,B,aw⟩
    case measure=>simp[intOf];omega
  obtain rfl:k=n:=oM
  have aM:l.take k=l:=gw (by rw[aX.o];exact fu _);cases ac with
  | true=>
   have aZ:q=lX l (f,h):=by rw[<-aJ.o];unfold kQ;rw[if_pos rfl,aM]
   have bp:D=(lX l (f,h)).length:=by rw[<-ay.o,aZ]
   have bg:Hid (wr.ownsRow w.heap.size 77 2 (ht ak D aj) D (gV q)):=gF (qL aB.o oM);clear aD aC X aI;go_wp2;go_ret;rw[<-aZ,ay.o];exact⟨ak,aj,rfl,bg.o,G⟩
  | false=>
   have av: ∀p∈l,iB p.1 f=true:=by have:=al.o;rw[aM] at this;simpa using this
   have au:q=l:=by rw[<-aJ.o];unfold kQ;rw[if_neg oF,aM]
   have bf:Hid (lX l (f,h)=q++[(f,h)]):=gF (by rw[au];exact Nj av);clear aD aC X av au al aM;have a8:=aB.o;have t:=a8.alloc (hG #[hA f, hA h] 77);have ad:Hid (∀R∈[fD f,fD h],R.oneCell'=fI):=gF (by intro R O;simp at O;rcases O with rfl|rfl<;>rfl)
   have ae:Hid (gO (· =wr.heap.size) (wr.alloc (.cells #[.string f, .string h] 77)) (fw ⟨wr.heap.size,0,fr⟩) [.string f, .string h]):=gF (gO.bx (Bx.new wr #[.string f, .string h] 77));have ag:=aQ.o.alloc aO (.cells #[.string f, .string h] 77);have aF:=aI.lt;clear a8 G;go_wp2_with (at_builtin;refine o8 rfl _ _ 41 rfl (w.heap.size+1) 77 aG _ 2 32 fQ s.o.1 s.o.2.1 s.o.2.2.1 s.o.2.2.2 rfl oF (.slice ak D aj) D (gV q) rfl t (fw ⟨wr.heap.size,0,fr⟩) 1 1 [.string f, .string h] rfl (by intro e;cases e) rfl ae.o ad.o (by unfold ga;omega) oM oN ?_;intro aP aH u V;obtain⟨ai,ah,rfl⟩:=pD u);go_ret;have af:=Below.jq ag (qL t (fV _)) V oN;have F:(q++[(f,h)]).length=D+1:=by rw[iI,ay.o];rfl
   have ab:gV (q++[(f,h)])=gV q++[hA f, hA h]:=by rw[sw];rfl
   rw[bf.o,F,ab];exact⟨_,_,rfl,qL u (fV _),af⟩
end Go.Proofs.YtlefmmhlpgmbjaaGreat
