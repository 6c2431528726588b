import Derived.Test.YtlefmmhlpgmbjaaGreatR01
import Derived.Deep.RegionHeld3
open Go renaming World->b1,Value->ck,Calls->cn,bodyPost_ret->cp,wpQuiet_nil->cu,Program->cx,beq_toListBytes->cE,results->cJ,mem_ready->cS,execOp->c8,yielded->c9,wpQuiet->dm,getD_both->du
open Go.Proofs.Tryz renaming prog->b2,underlying139->cv,underlying9->cG,underlying5->cH,results88->cK,ntmps88->cO,ntmps18->cP,func88->cV,func18->cW,results87->dd,ntmps87->dn,func87->dr,underlying23->dw,underlying22->dx
open Go.RowKit renaming Below->b3,wrap64->cF
open Option renaming none->b4,some->b7
open Bool renaming true->b5,false->ch,and_eq_true->cA
open Option.some renaming inj->b6
open Go.World renaming block_lt_of_cell?->b8,size_alloc->cg,size_setCell->c0
open List renaming drop_eq_getElem_cons->b9,take_succ_eq_append_getElem->cr,replicate->cy,all_eq_true->cz,range->cC,mem_range->cL,getElem_mem->cM,take_of_length_le->cQ,take_succ_cons->cY,pairwise_cons->c6,drop_length->da,take_zero->de,mem_or_eq_of_mem_set->df,getElem?_eq_getElem->di,getD->dj,take_append_drop->dq,mem_of_getElem?->ds,foldl_append->dz
open Go.Op renaming bytesLess->ca
open ByteArray renaming empty->cb,size->cI,data_extract->dc,ext->dv
open Go.RowKit.Below renaming refl->cd,alloc->cU,drew->c5,setCell->dh
open Nat renaming le_refl->cj,zero_le->db,zero_add->dp
open Go.Region renaming ready->cm,Mode->cq,wanted->cw,binds->cD,noSelect->dy
open Go.Result renaming andThen->ct
open Array renaming length_toList->cB,replicate->cR,getElem?_extract->dk
open Go.Ending renaming returned->cN
open UInt8 renaming ofNat->cT
open SizeOf renaming sizeOf->cX
open Go.Act renaming put->cZ
open Go.IntWalk renaming wrap64_in->c4
open BitVec renaming ofInt->c7,toNat_ofInt->dt
open Go.Proofs.Tryz
set_option maxRecDepth 100000
set_option maxHeartbeats 4000000
open Go.Value renaming int->gE,slice->hA,string->hE,agg->hF,tuple->hG
open Go.IntKind renaming i64->ha
open Go.Ending renaming returned->ht
namespace Go.Proofs.YtlefmmhlpgmbjaaGreat
open Go.RowKit
variable {S T S':Nat->Prop}{d:ik}{l:Int}{P:cx}{w W w1 w2:b1}{f:FuncId}{args:Array ck}{v:ck}{n i k j:Nat}{gP:List Int}{data:ByteArray}
theorem Im (d:ik) (v:ck) (i:Int) (data:ByteArray) (w:b1) (x:nR S w) (R:ja S w v d) (ar:data.size<=140737488351232) (au:d.gH.length<=1000000) (aV:(iW d !=0)=ch) (aL:decide (i<0)=ch) (aM:decide ((d.gG.length:Int)<=i)=ch) (aN:((data.size:Int)!=d.size)=ch) (O:(d.left==0)=ch):
  cn b2 88 #[v, gE ha i, hE data] w (lq S w { jt d with gH:=d.gH++[⟨i,data⟩] } 0):=by
 have B:=R;obtain⟨a1,a0,M,ai,rfl,aw,V,C⟩:=R;have aZ:=C.gG;have aF:=gF C;have X:=V;clear C aw V;obtain⟨ac,Y,Z,aa,ab⟩:=info_parts tz;have z: ∀o ad,b3 w.heap.size w ((w.alloc o).alloc ad):=fun o ad=>((cd _ _).alloc (cj _) _).alloc oC _;have aG:=aF.o.tM;have ay: ∀(W:b1) (v:ck),ja S W v d->cn b2 128 #[v] W (lq S W (jt d) 0):=fun W v c=>by have:=yI d v W c;rw[if_neg (by simpa using O),if_neg (by simpa using O)] at this;exact this
 go_enter cV,cO;go_wp2_with fail;refine(rD d _ _ (B.below (z _ _))).mono ?_;rintro e w1 ⟨rfl,s⟩;have G:=((Bx.new w _ _).alloc _).gD s;have A:=(Bx.new (w.alloc _) _ _).gD s;rw[cg] at A;obtain⟨p,q⟩:=G.cf;obtain⟨g,r⟩:=A.cf;have al:b3 w.heap.size w w1:=(z _ _).trans (s.mono oN);have aQ:=G.lt;have aS:=A.lt;go_wp2_with fail;refine(ay _ _ ((B.below (z _ _)).below s)).mono ?_;rintro e w2 ⟨a2,rfl,U,y⟩;have H:=G.gD y;have I:=A.gD y;have am:b3 w.heap.size w w2:=al.trans (y.mono oM);clear p q g r;have aO:=U;obtain⟨E,D,ak,aj,rfl,ax,aP,aE⟩:=U;obtain⟨p,q⟩:=H.cf;obtain⟨g,r⟩:=I.cf;have aR:=H.lt;have aT:=I.lt;have aY: ¬Gr S w1 w2 w.heap.size:=by rintro (c|c);exact absurd (x _ c) oM;omega
 have aD: ¬Gr S w1 w2 (w.heap.size+1):=by rintro (c|c);exact absurd (x _ c) oM;omega
 have aC: ¬Gr S w1 w2 w2.heap.size:=by rintro (c|c);exact absurd (x _ c) oM;omega
 have aq:iV S w2 M d.gH:=((X.below (z _ _)).below s).below y;have aI:=Bx.new w2 #[gE ha (jt d).size, hA E (jt d).gG.length D, hA ak (jt d).gH.length aj, gE ha (jt d).left] 25;clear X B s;go_wp2_with (first
  | (at_builtin;go_loud (refine o8 rfl (.tmp 37) (.tmp 39) 23 rfl (w2.heap.size+1) 80 ac _ 2 24 dw Y Z aa ab rfl oF _ 0 [] rfl (tu _ _ _ _ _ oC (cj _)) M d.gH.length ai (mi d.gH) rfl aG.nil (wM _) (aq.row.below (((cd _ _).alloc (cj _) _).alloc oC _)) (yE _) (by unfold maxLen;omega) oM oC ?_);go_loud (intro a3 w3 m t;simp only[dp,List.nil_append] at m;clear p q g r;have af:=((H.alloc _).alloc _).grown t (fun e=>by have e:w.heap.size=w2.heap.size+1:=b6 e;omega);have ah:=((I.alloc _).alloc _).grown t (fun e=>by have e:w.heap.size+1=w2.heap.size+1:=b6 e;omega);have ag:=(aI.alloc _).grown t (fun e=>by have e:w2.heap.size=w2.heap.size+1:=b6 e;omega);obtain⟨p,q⟩:=af.cf;obtain⟨g,r⟩:=ah.cf;obtain⟨L,N⟩:=ag.cf;have aW:w2.heap.size+2<=w3.heap.size:=(by have:=t.size;simpa using this)))
  | (at_builtin;refine o8 rfl (.tmp 40) (.tmp 44) 23 rfl (w2.heap.size+1) 80 ac _ 2 24 dw Y Z aa ab rfl oF _ d.gH.length (mi d.gH) rfl (m.alloc _) _ 1 1 [.int .i64 i, .string data] rfl (by intro e;cases e) rfl (gO.bx (Bx.new w3 _ _)) (by simp[Value.oneCell']) (by unfold maxLen;omega) oM oN ?_;intro a4 w4 av u;clear p q g r L N;obtain⟨ae,J,rfl,aB,az,aU⟩:=nC av;have aH:=(af.alloc _).grown u (by intro e;have:=(m.lt _ e.symm).1;omega);have aK:=(ah.alloc _).grown u (by intro e;have:=(m.lt _ e.symm).1;omega);have aJ:=(ag.alloc _).grown u (by intro e;have:=(m.lt _ e.symm).1;omega);obtain⟨p,q⟩:=aH.cf;obtain⟨g,r⟩:=aK.cf;obtain⟨L,N⟩:=aJ.cf))
 have aX:w3.heap.size+1<=w4.heap.size:=by have:=u.size;simpa using this
 have ao:b3 w.heap.size w w3:=((am.alloc oM _).alloc oN _).grown t oN (fun k e=>by have e:w2.heap.size+1=k:=b6 e;omega);have ap:b3 w.heap.size w w4:=((ao.alloc oM _).grown u oN (by intro k e;have:=(m.lt _ e).1;omega));refine cp (v:= hG #[hF #[gE ha (jt d).size, hA E (jt d).gG.length D, hA ae (d.gH.length+1) J, gE ha (jt d).left], gE ha 0]) (by simp[cJ,cK,go_sem,g]) rfl ?_;refine⟨_,rfl,⟨E,D,ae,J,oC,?_,?_,C2 aE ar au aB⟩,?_⟩;have h:nR (Gr S w1 w2) w2:=fun b c=>by rcases c with c|c;exact iU (x _ c) oM;omega
 have aA:Same (Gr S w1 w2) w2 w4:=((((Same.refl _ _).alloc h _).alloc (h.size oC) _).grown t (h.size oN) fun b e c=>by have e:w2.heap.size+1=b:=b6 e;have:=h b c;omega).alloc (h.size oM) _ |>.grown u (h.size oN) (fun b e c=>by have:=(m.lt _ e).1;have:=h b c;omega);refine mW.mono (S:=Gr S w1 w2) ?_ (fun b c=>by rcases c with c|c;exact .inl c;exact Gr.new oM (by simp only[c0];omega));exact ax.same ((aA.pQ aC).kz aD);refine iV.mono (S:=fun b=>w2.heap.size+1<=b/\b<w4.heap.size) ?_ (fun b c=>Gr.new oM (by simp only[c0];omega));exact(iV.js (l:=d.gH++[⟨i,data⟩]) (by rw[Aq];exact az)).same (((Same.refl _ _).pQ (b:=w2.heap.size) oM).kz (b:=w.heap.size+1) oM);exact nX (b:=w.heap.size+1) (iT (b:=w2.heap.size) ap oM) oM
theorem Io (d:ik) (v:ck) (i:Int) (data:ByteArray) (w:b1) (g:nR S w) (A:ja S w v d) (_hd:data.size<=140737488351232) (_hn:d.gH.length<=1000000) (ao:(iW d !=0)=ch) (ad:decide (i<0)=ch) (ae:decide ((d.gG.length:Int)<=i)=ch) (af:((data.size:Int)!=d.size)=ch) (z:(d.left==0)=b5):
  cn b2 88 #[v, gE ha i, hE data] w (lq S w d 18):=by
 have B:=A;obtain⟨aA,az,ac,ab,rfl,U,D,s⟩:=A;have ax:=s.gG;have Y:=gF s;have ah:=D;clear s U D;obtain⟨au,ai,ap,aq,ar⟩:=info_parts tz;have r: ∀o E,b3 w.heap.size w ((w.alloc o).alloc E):=fun o E=>((cd _ _).alloc (cj _) _).alloc oC _;have aB:=Y.o.tM;have V: ∀(W:b1) (v:ck),ja S W v d->cn b2 128 #[v] W (lq S W d 18):=fun W v c=>by have:=yI d v W c;rw[if_pos (by simpa using z),if_pos (by simpa using z)] at this;exact this
 go_enter cV,cO;go_wp2_with fail;refine(rD d _ _ (B.below (r _ _))).mono ?_;rintro e w1 ⟨rfl,h⟩;have t:=((Bx.new w _ _).alloc _).gD h;have m:=(Bx.new (w.alloc _) _ _).gD h;rw[cg] at m;obtain⟨u,x⟩:=t.cf;obtain⟨p,y⟩:=m.cf;have L:b3 w.heap.size w w1:=(r _ _).trans (h.mono oN);have aj:=t.lt;have al:=m.lt;go_wp2_with fail;refine(V _ _ ((B.below (r _ _)).below h)).mono ?_;rintro e w2 ⟨aC,rfl,C,q⟩;have G:=t.gD q;have H:=m.gD q;have M:b3 w.heap.size w w2:=L.trans (q.mono oM);clear u x p y;have N:=C;obtain⟨aa,Z,J,I,rfl,am,ag,ay⟩:=C;obtain⟨u,x⟩:=G.cf;obtain⟨p,y⟩:=H.cf;have ak:=G.lt;have R:=H.lt;have av: ¬Gr S w1 w2 w.heap.size:=by rintro (c|c);exact absurd (g _ c) oM;omega
 have X: ¬Gr S w1 w2 (w.heap.size+1):=by rintro (c|c);exact absurd (g _ c) oM;omega
 have aw: ¬Gr S w1 w2 w2.heap.size:=by rintro (c|c);exact absurd (g _ c) oM;omega
 go_wp2;refine cp (v:= hG #[hF #[gE ha d.size, hA aa d.gG.length Z, hA J d.gH.length I, gE ha d.left], gE ha 18]) (by simp[cJ,cK,go_sem,p,R]) rfl ?_;have O:nR (Gr S w1 w2) w2:=fun b c=>by rcases c with c|c;exact iU (g _ c) oM;omega
 refine⟨_,rfl,ja.mono (S:=Gr S w1 w2) ?_ (fun b c=>by rcases c with c|c;exact .inl c;exact Gr.new oM oN),?_⟩;exact N.same (((Same.refl _ _).kz X).alloc (O.size oC) _);exact(nX (b:=w.heap.size+1) M oM).alloc oN _
theorem Ip (d:ik) (v:ck) (i:Int) (data:ByteArray) (w:b1) (D:nR S w) (C:ja S w v d) (E:data.size<=140737488351232) (I:d.gH.length<=1000000):
  cn b2 88 #[v, gE ha i, hE data] w (lq S w (mR d i data).1 (mR d i data).2):=by
 have r:=C;obtain⟨ac,ab,O,N,rfl,M,L,y⟩:=C;have Z:=y.gG;have aa:=gF y;clear y M L;obtain⟨Y,R,U,V,X⟩:=info_parts tz;have h: ∀o J,b3 w.heap.size w ((w.alloc o).alloc J):=fun o J=>((cd _ _).alloc (cj _) _).alloc oC _;unfold mR;cases x:(iW d !=0);.
  rw[if_neg (by simpa using x)];cases p:decide (i<0);focus
   cases s:decide ((d.gG.length:Int)<=i);. rw[if_neg (by simp at p s;omega)];cases t:((data.size:Int)!=d.size);rw[if_neg (by simpa using t)];cases u:(d.left==0);rw[if_neg (by simpa using u)];exact Im d _ i data w D r E I x p s t u;rw[if_pos (by simpa using u)];exact Io d _ i data w D r E I x p s t u;rw[if_pos (by simpa using t)];go_enter cV,cO;go_wp2_with fail;refine(rD d _ _ (r.below (h _ _))).mono ?_;rintro e w1 ⟨rfl,b⟩;have g:=((Bx.new w _ _).alloc _).gD b;have c:=(Bx.new (w.alloc _) _ _).gD b;rw[cg] at c;obtain⟨z,A⟩:=g.cf;obtain⟨m,B⟩:=c.cf;have q:b3 w.heap.size w w1:=(h _ _).trans (b.mono oN);have G:=g.lt;have H:=c.lt;go_wp2;refine cp (v:= hG #[hF #[gE ha 0, hA b4 0 0, hA b4 0 0, gE ha 0], gE ha 10]) (by simp[cJ,cK,go_sem,m]) rfl ?_;exact⟨_,rfl,rE _,(by repeat (first|exact q| (refine dh ?_ oC _)| (refine cU ?_ oN _)| (refine Below.drewN ?_ _)| (refine c5 ?_)))⟩
   focus rw[if_pos (by simp at p s;omega)]
  rotate_left;focus rw[if_pos (by simp at p;omega)]
  all_goals go_enter cV,cO;go_wp2_with fail;refine(rD d _ _ (r.below (h _ _))).mono ?_;rintro e w1 ⟨rfl,b⟩;have g:=((Bx.new w _ _).alloc _).gD b;have c:=(Bx.new (w.alloc _) _ _).gD b;rw[cg] at c;obtain⟨z,A⟩:=g.cf;obtain⟨m,B⟩:=c.cf;have q:b3 w.heap.size w w1:=(h _ _).trans (b.mono oN);have G:=g.lt;have H:=c.lt;go_wp2;refine cp (v:= hG #[hF #[gE ha 0, hA b4 0 0, hA b4 0 0, gE ha 0], gE ha 2]) (by simp[cJ,cK,go_sem,m]) rfl ?_;exact⟨_,rfl,rE _,(by repeat (first|exact q| (refine dh ?_ oC _)| (refine cU ?_ oN _)| (refine Below.drewN ?_ _)| (refine c5 ?_)))⟩
 rw[if_pos (by simpa using x)];go_enter cV,cO;go_wp2_with fail;refine(rD d _ _ (r.below (h _ _))).mono ?_;rintro e w1 ⟨rfl,b⟩;have g:=((Bx.new w _ _).alloc _).gD b;have c:=(Bx.new (w.alloc _) _ _).gD b;rw[cg] at c;obtain⟨z,A⟩:=g.cf;obtain⟨m,B⟩:=c.cf;have q:b3 w.heap.size w w1:=(h _ _).trans (b.mono oN);have G:=g.lt;have H:=c.lt;go_wp2;refine cp (v:= hG #[hF #[gE ha 0, hA b4 0 0, hA b4 0 0, gE ha 0], gE ha 1]) (by simp[cJ,cK,go_sem,m]) rfl ?_;exact⟨_,rfl,rE _,(by repeat (first|exact q| (refine dh ?_ oC _)| (refine cU ?_ oN _)| (refine Below.drewN ?_ _)| (refine c5 ?_)))⟩
theorem Iq (d:ik) (v:ck) (w:b1) (x:nR S w) (q:ja S w v d):
  cn b2 84 #[v] w (lq S w (ow d).1 (ow d).2):=by
 have r: ∀o H,b3 w.heap.size w ((w.alloc o).alloc H):=fun o H=>((cd _ _).alloc (cj _) _).alloc oC _;unfold ow;cases z:(iW d !=0);.
  rw[if_neg (by simpa using z)];cases p:(d.left==0);rw[if_neg (by simpa using p)];exact Il d v w x q z p;rw[if_pos (by simpa using p)];have s:=q;obtain⟨ac,aa,O,M,rfl,G,E,I⟩:=q;clear G E I;have X: ∀(W:b1) (v:ck),ja S W v d->cn b2 125 #[v] W (qE S W d ch):=fun W v c=>by have:=yH d v W c;rw[if_pos (by simpa using p),p] at this;exact this
  go_enter func84,ntmps84;go_wp2_with fail;refine(su d _ _ (s.below (r _ _))).mono ?_;rintro e w1 ⟨rfl,g⟩;have A:=((Bx.new w _ _).alloc _).gD g;have h:=(Bx.new (w.alloc _) _ _).gD g;rw[cg] at h;obtain⟨B,C⟩:=A.cf;obtain⟨m,t⟩:=h.cf;have u:b3 w.heap.size w w1:=(r _ _).trans (g.mono oN);have af:=A.lt;have ah:=h.lt;go_wp2_with fail;refine(X _ _ ((s.below (r _ _)).below g)).mono ?_;rintro e w2 ⟨al,rfl,D,y⟩;have J:=A.gD y;have L:=h.gD y;have U:b3 w.heap.size w w2:=u.trans (y.mono oM);clear B C m t;have V:=D;obtain⟨ad,ab,R,N,rfl,aj,ae,ak⟩:=D;obtain⟨B,C⟩:=J.cf;obtain⟨m,t⟩:=L.cf;have ag:=J.lt;have ai:=L.lt;have Y: ¬Gr S w1 w2 w.heap.size:=by rintro (c|c);exact absurd (x _ c) oM;omega
  have Z: ¬Gr S w1 w2 (w.heap.size+1):=by rintro (c|c);exact absurd (x _ c) oM;omega
  go_wp2;refine cp (v:= hG #[hF #[gE ha d.size, hA ad d.gG.length ab, hA R d.gH.length N, gE ha d.left], gE ha 18]) (by simp[cJ,results84,go_sem,m]) rfl ?_;refine⟨_,rfl,(V.same ?_).mono ?_,?_⟩;exact((Same.refl _ _).kz Y).kz Z;rintro b (c|c);exact .inl c;exact .inr oN;exact nX (b:=w.heap.size+1) (nX (b:=w.heap.size) U (cj _)) oM
 rw[if_pos (by simpa using z)];have s:=q;obtain⟨ac,aa,O,M,rfl,G,E,I⟩:=q;go_enter func84,ntmps84;go_wp2_with fail;refine(su d _ _ (s.below (r _ _))).mono ?_;rintro e w1 ⟨rfl,g⟩;have h:=(Bx.new (w.alloc _) _ _).gD g;rw[cg] at h;obtain⟨m,t⟩:=h.cf;have u:b3 w.heap.size w w1:=(r _ _).trans (g.mono oN);go_wp2;refine cp (v:= hG #[hF #[gE ha 0, hA b4 0 0, hA b4 0 0, gE ha 0], gE ha 1]) (by simp[cJ,results84,go_sem,m]) rfl ?_;exact⟨_,rfl,rE _,nX (b:=w.heap.size+1) u oM⟩
theorem Ir {o:Option Addr} {c:Nat} (p: ∀s∈d.gG,(s.size:Int)=d.size) (g: ∀x∈d.gH,(x.data.size:Int)=d.size) (q:d.gG.length<=2000) (r:d.size<=512) (h: -9223372036854775808<=l/\l<=9223372036854775807)
  (m:jk o d.gG.length c):mG ⟨d.size,o9 d,[],l⟩ o b4 c 0:=
 ⟨by rw[show(⟨d.size,o9 d,[],l⟩:ik).gG.length=d.gG.length from uG d];exact m, .inl ⟨rfl,rfl,rfl⟩,by simp only[uG];omega,oC,fun s b=>by have:=AA p g s b;omega,oC,h⟩
theorem Iu (d:ik) (k:Nat) (h:k<d.gG.length):(o9 d)[k]?=b7 (nv d k h):=by simp[o9,h]
theorem Iw (d:ik) (k:Nat) (h:k<d.gG.length):(o9 d).take (k+1)=(o9 d).take k++[nv d k h]:=by
 rw[List.take_add_one,Iu d k h];rfl
theorem Iy (d:ik) (v:ck) (w:b1) (_hS:nR S w) (U:ja S w v d) (aP:(iW d !=0)=ch) (R:(d.left==0)=ch):
  cn b2 87 #[v] w (lq S w ⟨d.size,o9 d,[],(jt d).left⟩ 0):=by
 obtain⟨aV,ag,ah,aW⟩:=nY (by simpa using aP);have Z:=pd aV;have E:=U;obtain⟨af,ae,O,N,rfl,aI,aF,I⟩:=U;have bj:=I.gG;have bk:=gF I;clear I aI aF;obtain⟨aT,aG,aQ,aR,aS⟩:=info_parts xu;have G: ∀o ab,b3 w.heap.size w ((w.alloc o).alloc ab):=fun o ab=>((cd _ _).alloc (cj _) _).alloc oC _;have aK: ∀(W:b1) (v:ck),ja S W v d->cn b2 128 #[v] W (lq S W (jt d) 0):=fun W v p=>by have:=yI d v W p;rw[if_neg (by simpa using R),if_neg (by simpa using R)] at this;exact this
 go_enter dr,dn;go_wp2_with fail;refine(rD d _ _ (E.below (G _ _))).mono ?_;rintro e w1 ⟨rfl,x⟩;have h:=((Bx.new w _ _).alloc _).gD x;have c:=(Bx.new (w.alloc _) _ _).gD x;rw[cg] at c;obtain⟨q,r⟩:=h.cf;obtain⟨m,s⟩:=c.cf;have g:b3 w.heap.size w w1:=(G _ _).trans (x.mono oN);have a9:=h.lt;have bb:=c.lt;go_wp2_with fail;refine(aK _ _ ((E.below (G _ _)).below x)).mono ?_;rintro e w2 ⟨bn,rfl,aE,y⟩;have B:=h.gD y;have C:=c.gD y;have aB:b3 w.heap.size w w2:=g.trans (y.mono oM);clear q r m s;obtain⟨bm,bl,av,au,rfl,_,_,ad⟩:=aE;have aU:=gF ad.left;clear ad;obtain⟨q,r⟩:=B.cf;obtain⟨m,s⟩:=C.cf;have aH:=B.lt;have X:=C.lt;have bh:w.heap.size+1<w2.heap.size:=X;have aa:=gF (gK ag ah);have aJ:d.gG.length<=2000:=oM
 have aN:d.size<=512:=Z.2.2.2;clear ag ah Z;go_wp2;clear q r m s
 go_loopw [6] (fun i wr=> ∃(k:Nat) (v:ck),k<=d.gG.length/\i= gE ha k/\wr.ownsRow (w2.heap.size+1) 9 1 v k (((o9 d).take k).map .string)/\Bx wr w.heap.size #[gE ha d.size, hA af d.gG.length ae, hA O d.gH.length N, gE ha d.left] 25/\Bx wr (w.heap.size+1) #[gE ha 0, hA b4 0 0, hA b4 0 0, gE ha 0] 25/\Bx wr w2.heap.size #[gE ha (jt d).size,v, hA av (jt d).gH.length au, gE ha (jt d).left] 25/\b3 w.heap.size w wr) (fun i _=>d.gG.length - (intOf i).toNat)
 case atStart=>exact⟨0,_,db _,rfl,World.ownsRow_nil _ _ _ _,B.alloc _,C.alloc _,Bx.new w2 _ _,aB.alloc oM _⟩
 case round=>
  clear B C y aH X;obtain⟨k,v,a7,rfl,H,h,c,J,g⟩:=hrel;have a':=h.lt;have bc:=c.lt;have ba:=J.lt;obtain⟨q,r⟩:=h.cf;obtain⟨m,s⟩:=c.cf;obtain⟨ap,ay⟩:=J.cf
  by_cases A:k<d.gG.length
  .
   have V: ∀W,b3 w.heap.size w W->cn b2 129 #[hF #[gE ha d.size, hA af d.gG.length ae, hA O d.gH.length N, gE ha d.left], gE ha k] W fun e w'=>e= ht (hE (nv d k A))/\b3 W.heap.size W w':=fun W p=>C1 d _ k A W (E.below p);obtain⟨aZ,D⟩:=nM (nv d k A);rw[D] at V;have aw:=gF D;clear D;go_wp2
   go_region_law (first
    | (refine Ap rfl (.tmp 29) (.tmp 33) 22 rfl (w2.heap.size+1) 9 aT _ 1 16 dx aG aQ aR aS rfl oF v k _ rfl (u.alloc _) _ 1 1 [.string aZ] rfl (by intro e;cases e) rfl (gO.bx (Bx.new aX _ _)) (by simp[Value.oneCell']) (by unfold maxLen;omega) oM oN ?_;intro aW w4 Y z;clear ao ax ar aA aq az;obtain⟨bi,a0,rfl,bg,bf,be⟩:=nC Y;have aj:=(ai.alloc _).grown z (by intro e;have:=(u.lt _ e.symm).1;omega);have am:=(al.alloc _).grown z (by intro e;have:=(u.lt _ e.symm).1;omega);have ak:=(L.alloc _).grown z (by intro e;have:=(u.lt _ e.symm).1;omega);obtain⟨a1,a4⟩:=aj.cf;obtain⟨a3,a6⟩:=am.cf;obtain⟨a2,a5⟩:=ak.cf)
    | (go_simp;go_at_call 129;refine(V _ (by first|exact g.drew|exact g)).mono ?_;rintro e aX ⟨rfl,t⟩;have ai:=h.drew.gD t;have al:=c.drew.gD t;have L:=J.drew.gD t;have u:=nD H.drew t;have aC:=g.drew.trans (t.mono g.size);have a8:=L.lt;clear q r m s ap ay;obtain⟨ao,ax⟩:=ai.cf;obtain⟨ar,aA⟩:=al.cf;obtain⟨aq,az⟩:=L.cf))
   all_goals
    have aD:b3 w.heap.size w w4:=(aC.alloc oM _).grown z oN (by intro j e;have:=(u.lt _ e).1;omega);go_wp2;go_roundw;case rel=>
     refine⟨k+1,_,oM,oQ,?_,aj.jc oN _,am.jc oN _,by simpa using ak.set 1 _,iT aD oM⟩;rw[Iw d k A,aw.o,List.map_append];exact CK Y oM _
    case measure=>simp[intOf];omega
  obtain rfl:k=d.gG.length:=oM
  rw[cQ (by rw[uG];exact cj _)] at H;obtain⟨ac,M,rfl,aM,aL,bd⟩:=nC H;go_wp2;refine cp (v:= hG #[hF #[gE ha (jt d).size, hA ac d.gG.length M, hA b4 0 0, gE ha (jt d).left], gE ha 0]) (by simp[cJ,dd,go_sem,m]) rfl ?_;refine⟨_,rfl,⟨ac,M,b4,0,by simp only[uG];rfl,?_,by intro i p;simp at p,Ir aa.o.1 (fun aY aO=>(aa.o.2 aY aO).2.2) aJ aN aU.o aM⟩,nX (b:=w.heap.size+1) (iT (b:=w2.heap.size) g oM) oM⟩;refine mW.mono (S:=fun b=>w2.heap.size+1<=b/\b<wr.heap.size) ?_ (fun b p=>Gr.new oM (by simp only[c0];omega));exact(mW.js aL).same (((Same.refl _ _).pQ (b:=w2.heap.size) oM).kz (b:=w.heap.size+1) oM)
theorem Iz (d:ik) (v:ck) (w:b1) (t:nR S w) (q:ja S w v d):
  cn b2 87 #[v] w (lq S w (ow d).1 (ow d).2):=by
 have r: ∀o H,b3 w.heap.size w ((w.alloc o).alloc H):=fun o H=>((cd _ _).alloc (cj _) _).alloc oC _;unfold ow;cases z:(iW d !=0);.
  rw[if_neg (by simpa using z)];cases p:(d.left==0);rw[if_neg (by simpa using p)];exact Iy d v w t q z p;rw[if_pos (by simpa using p)];have s:=q;obtain⟨ad,ab,O,M,rfl,G,E,I⟩:=q;clear G E I;have Z: ∀(W:b1) (v:ck),ja S W v d->cn b2 128 #[v] W (lq S W d 18):=fun W v c=>by have:=yI d v W c;rw[if_pos (by simpa using p),if_pos (by simpa using p)] at this;exact this
  go_enter dr,dn;go_wp2_with fail;refine(rD d _ _ (s.below (r _ _))).mono ?_;rintro e w1 ⟨rfl,g⟩;have A:=((Bx.new w _ _).alloc _).gD g;have h:=(Bx.new (w.alloc _) _ _).gD g;rw[cg] at h;obtain⟨B,C⟩:=A.cf;obtain⟨m,u⟩:=h.cf;have x:b3 w.heap.size w w1:=(r _ _).trans (g.mono oN);have ag:=A.lt;have ai:=h.lt;go_wp2_with fail;refine(Z _ _ ((s.below (r _ _)).below g)).mono ?_;rintro e w2 ⟨am,rfl,D,y⟩;have J:=A.gD y;have L:=h.gD y;have U:b3 w.heap.size w w2:=x.trans (y.mono oM);clear B C m u;have V:=D;obtain⟨ae,ac,R,N,rfl,aj,af,al⟩:=D;obtain⟨B,C⟩:=J.cf;obtain⟨m,u⟩:=L.cf;have ah:=J.lt;have Y:=L.lt;have ak: ¬Gr S w1 w2 w.heap.size:=by rintro (c|c);exact absurd (t _ c) oM;omega
  have aa: ¬Gr S w1 w2 (w.heap.size+1):=by rintro (c|c);exact absurd (t _ c) oM;omega
  go_wp2;refine cp (v:= hG #[hF #[gE ha d.size, hA ae d.gG.length ac, hA R d.gH.length N, gE ha d.left], gE ha 18]) (by simp[cJ,dd,go_sem,m,Y]) rfl ?_;have X:nR (Gr S w1 w2) w2:=fun b c=>by rcases c with c|c;exact iU (t _ c) oM;omega
  refine⟨_,rfl,ja.mono (S:=Gr S w1 w2) ?_ (fun b c=>by rcases c with c|c;exact .inl c;exact Gr.new oM oN),?_⟩;exact V.same (((Same.refl _ _).kz aa).alloc (X.size oC) _);exact(nX (b:=w.heap.size+1) U oM).alloc oN _
 rw[if_pos (by simpa using z)];have s:=q;obtain⟨ad,ab,O,M,rfl,G,E,I⟩:=q;go_enter dr,dn;go_wp2_with fail;refine(rD d _ _ (s.below (r _ _))).mono ?_;rintro e w1 ⟨rfl,g⟩;have h:=(Bx.new (w.alloc _) _ _).gD g;rw[cg] at h;obtain⟨m,u⟩:=h.cf;have x:b3 w.heap.size w w1:=(r _ _).trans (g.mono oN);go_wp2;refine cp (v:= hG #[hF #[gE ha 0, hA b4 0 0, hA b4 0 0, gE ha 0], gE ha 1]) (by simp[cJ,dd,go_sem,m]) rfl ?_;exact⟨_,rfl,rE _,nX (b:=w.heap.size+1) x oM⟩
theorem IA (a b:ByteArray):mX 0 a b=b:=by
 unfold mX;apply dv;simp
theorem IB (ps:List ByteArray) (i:Nat) (d:ByteArray):ps.set i (ps.getD i d)=ps:=by
 apply List.ext_getElem?;intro j;rw[List.getElem?_set]
 by_cases b:i=j
 .
  subst b
  by_cases c:i<ps.length
  simp[c];simp[c]
 simp[b]
theorem Dg {gP:List Int} {b:Int}: ∀(l:List PW) (k:Nat) (ps:List ByteArray),gP.length<=k->nG gP b k l ps=ps
 | [],_,_,_=>rfl
 | x::l,k,ps,h=>by rw[nG,show sr gP k b=0 from dif_neg oM];rw[show(0:Int).toNat=0 from rfl,IA,IB];exact Dg l (k+1) ps oM
theorem IC (d:ik) (v:ck) (gP:List Int) (aT:Option Addr) (bp:Nat) (w:b1) (ay:ja S w v d) (ba:lp T w aT gP) (bO:gP.length<=1000000) (_hn:d.gH.length<=1000000) (aQ:iW d=0):
  cn b2 66 #[v, hA aT gP.length bp] w (tN S w ⟨d.size,nG gP d.size 0 d.gH d.gG,[],-1⟩):=by
 obtain⟨bt,aW,am,bZ⟩:=nY aQ;have aL:=pd bt;have bS:(iW d !=0)=false:=by simp[aQ]
 have az:=ay;obtain⟨R,O,av,au,rfl,a9,a3,aj⟩:=ay;have bV:=aj.gG;have aU:=aj.vE;obtain⟨bl,a6,bi,bj,bk⟩:=info_parts xu;have aa: ∀o ah,b3 w.heap.size w ((w.alloc o).alloc ah):=fun o ah=>((cd _ _).alloc (cj _) _).alloc oC _;go_enter func66,ntmps66;go_wp2_with fail;refine(rD d _ _ (az.below (aa _ _))).mono ?_;rintro e w1 ⟨rfl,C⟩;have s:=((Bx.new w _ _).alloc _).gD C;have y:=(Bx.new (w.alloc _) _ _).gD C;rw[cg] at y;obtain⟨A,M⟩:=s.cf;obtain⟨L,Y⟩:=y.cf;have z:b3 w.heap.size w w1:=(aa _ _).trans (C.mono oN);have bJ:=y.lt;have a8:=s.lt;have aG:=(a9.below (aa _ _)).below C;have bf:=gF aW;have bg:=gF am;have a':d.gG.length<=2000:=oM
 have bM:1<=d.gG.length:=oM
 have bR:1<=d.size/\d.size<=512:=aL.2.2;clear aW am aL C az aj;go_wp2_with fail
 go_cut [5] (fun br I=> ∃(D:Nat) (o:Option Addr) (q:Nat),br= .pointer (b7 ⟨D,0,b4⟩)/\Bx I D #[gE ha d.size, hA o d.gG.length q, hA b4 0 0, gE ha (-1)] 25/\I.ownsRow w1.heap.size 9 1 (hA o d.gG.length q) d.gG.length (d.gG.map .string)/\(Value.slice o d.gG.length q).ownBlock≠b7 D/\w1.heap.size<=D/\Bx I w.heap.size #[gE ha d.size, hA R d.gG.length O, hA av d.gH.length au, gE ha d.left] 25/\Bx I (w.heap.size+1) #[gE ha 0, hA b4 0 0, hA b4 0 0, gE ha 0] 25/\b3 w.heap.size w I)
 case first=>
  have bm:w.heap.size≠w1.heap.size:=oM
  have bn:w.heap.size≠w1.heap.size+1:=oM
  have bT:w.heap.size+1≠w1.heap.size:=oM
  have bU:w.heap.size+1≠w1.heap.size+1:=oM
  clear L Y
  go_region_held3 (fun w'=>w'.cell? ⟨w.heap.size,0,b4⟩=b7 (gE ha d.size)/\w'.cell? ⟨w.heap.size,1,b4⟩=b7 (hA R d.gG.length O)) (first| (simp[go_sem,A,a8];done)| (simp[go_sem,ar,aD];done)| (simp[go_sem,ar,aD,bm,bn];done))
   ((refine Ap rfl (.tmp 15) (.tmp 17) 22 rfl w1.heap.size 9 bl _ 1 16 dx a6 bi bj bk rfl oF _ 0 [] rfl (Hp (by first|exact Bx.new w1 _ _|exact(Bx.new w1 _ _).alloc _|exact Bx.ir (w1.alloc _) _ _ _ oC) oM) R d.gG.length O (d.gG.map .string) rfl aU.nil oC (aG.row.below (by repeat (first|exact cd _ _| (refine c5 ?_)| (refine cU ?_ oC _)))) (CS _) (by unfold maxLen;omega) oM (by first|omega| (simp;done)| (simp;omega)) ?_;intro am w3 p B;simp only[dp,List.nil_append] at p;have U:Bx w3 w.heap.size _ _:=Bx.grown (by first|exact s.alloc _|exact(s.alloc _).alloc _) B (fun e=>by have e:=b6 e;dsimp only at e;omega);have aq:Bx w3 (w.heap.size+1) _ _:=Bx.grown (by first|exact y.alloc _|exact(y.alloc _).alloc _) B (fun e=>by have e:=b6 e;dsimp only at e;omega);have Z:b3 w.heap.size w w3:=Below.grown (by repeat (first|exact z| (refine c5 ?_)| (refine cU ?_ (by first|omega| (simp;done)| (simp;omega)) _))) B (by first|omega| (simp;done)| (simp;omega)) (fun k e=>by have e:=b6 e;dsimp only at e;omega);obtain⟨ai,X,rfl,bQ,bP,bL⟩:=nC p;obtain⟨ar,aD⟩:=U.c2;(try (have u:Bx w3 (w1.heap.size+1) #[.int .i64 0, .slice b4 0 0, .slice b4 0 0, .int .i64 0] 25:=Bx.grown (Bx.drew (Bx.ir (w1.alloc _) _ _ _ oC)) B (fun e=>by have e:=b6 e;dsimp only at e;omega);obtain⟨aZ,a1⟩:=u.cf));(try (have u:Bx w3 w1.heap.size #[.int .i64 0, .slice b4 0 0, .slice b4 0 0, .int .i64 0] 25:=Bx.grown (Bx.drew ((Bx.new w1 _ _).alloc _)) B (fun e=>by have e:=b6 e;dsimp only at e;omega);obtain⟨aZ,a1⟩:=u.cf))))
  all_goals go_wp2_with fail
  all_goals go_meet
  refine⟨w3.heap.size,ai,X,rfl,Bx.new _ _ _,p.alloc _,fun e=>?_,?_,U.alloc _,aq.alloc _,Z.alloc oM _⟩;exact absurd (p.lt _ e).2 (Nat.lt_irrefl _);have:=B.size;simp at this;omega;refine⟨w1.heap.size+1,ai,X,rfl,u.kz,CL p (nu p u oF),nu p u oF,oM,U.nE oM,aq.nE oM,nX (b:=w1.heap.size+1) Z oM⟩;refine⟨w1.heap.size,ai,X,rfl,u.kz,CL p (nu p u oF),nu p u oF,oM,U.nE oM,aq.nE oM,nX (b:=w1.heap.size) Z oM⟩
 case rest=>
  obtain⟨D,o,q,rfl,J,m,aF,bE,ap,aY,ax⟩:=hcut;obtain⟨h,a5⟩: ∃h,o=b7 ⟨h,0,b4⟩:=by rcases m.2 with⟨_,r⟩|⟨h,bz,bA,r,_⟩;omega;simp only[Value.slice.injEq] at r;exact⟨h,r.1⟩
  subst a5;have aB:=m.lt h rfl;have bG:h≠D:=fun e=>aF (by rw[e];rfl);clear s y A M L Y z aF aG aU;obtain⟨A,aC,M⟩:=ap.c3;go_wp2
  go_loopw [6] (fun al wr=> ∃(k:Nat) (c:List ByteArray),k<=d.gH.length/\al= gE ha k/\c.length=d.gG.length/\(∀H∈c,(H.size:Int)=d.size)/\nG gP d.size k (d.gH.drop k) c=nG gP d.size 0 d.gH d.gG/\wr.ownsRow w1.heap.size 9 1 (hA (b7 ⟨h,0,b4⟩) d.gG.length q) d.gG.length (c.map .string)/\Bx wr D #[gE ha d.size, hA (b7 ⟨h,0,b4⟩) d.gG.length q, hA b4 0 0, gE ha (-1)] 25/\Bx wr w.heap.size #[gE ha d.size, hA R d.gG.length O, hA av d.gH.length au, gE ha d.left] 25/\Bx wr (w.heap.size+1) #[gE ha 0, hA b4 0 0, hA b4 0 0, gE ha 0] 25/\b3 w.heap.size w wr) (fun al _=>d.gH.length - (intOf al).toNat)
  case atStart=>exact⟨0,d.gG,db _,rfl,rfl,bf.o,rfl,m,J,ap,aY,ax⟩
  case round=>
   clear A M aC ap aY J m ax aB;obtain⟨k,c,bH,rfl,aH,aJ,aK,m,J,s,y,z⟩:=hrel;have ag:=gF aK;have af:=gF aJ;have E:=gF aH;clear aK aJ aH;obtain⟨A,aC,M⟩:=s.c3;obtain⟨bx,bI,bB⟩:=J.c3;have aB:=m.lt h rfl
   by_cases ad:k<d.gH.length
   focus
    by_cases aE:k<gP.length
    .
     obtain⟨b,aR,rfl,ab,ac,_⟩:=a3 k ad;have aA:wr.cell? ⟨b,aR+k * 2,b4⟩=b7 (gE ha d.gH[k].page):=by rw[z.cell (b8 w _ ab)];exact ab
     have a4:wr.cell? ⟨b,aR+k * 2+1,b4⟩=b7 (hE d.gH[k].data):=by rw[z.cell (b8 w _ ac)];exact ac
     have bF:b<wr.heap.size:=b8 wr _ aA;obtain⟨aS,bq,rfl,ak,_⟩:=ba k aE;have bo:wr.cell? ⟨aS,bq+k,b4⟩=b7 (gE ha gP[k]):=by rw[z.cell (b8 w _ ak)];exact ak
     have bN:aS<wr.heap.size:=b8 wr _ bo;obtain⟨aX,bu,ao⟩:=bg.o d.gH[k] (cM ad);generalize aP:d.gH[k]=x at *;obtain⟨b0,V⟩:=x;simp only at aX bu ao aA a4;obtain⟨g,rfl⟩:=Int.eq_ofNat_of_zero_le aX;have ae:g<c.length:=by rw[E.o];omega
     have bC:wr.cell? ⟨h,g,b4⟩=b7 (hE c[g]):=by rw[m.cellAt g oM];simp[ae]
     have bD:wr.frozen? ⟨h,g,b4⟩=false:=m.frozenAt g;have aN:=af.o c[g] (cM ae);obtain⟨aV,bs⟩:=Au gP k d.size oM;obtain⟨t,N⟩:=Int.eq_ofNat_of_zero_le aV;have aM:uE gP[k] d.size=t:=by rw[<-N];unfold sr;rw[dif_pos aE]
     have be: ∀W,cn b2 115 #[gE ha gP[k], gE ha d.size] W fun e w'=>e= ht (gE ha t)/\w'=W:=fun W=>aM▸(Hy gP[k] d.size oM oM W).mono fun e w' r=>⟨r.1,r.2.symm⟩;rw[N] at aV bs;have bd:=gF N;have bh:=gF aP;have aO:=gF aN;have bv:=gF ao;have bW:t<=V.size:=oM
     have bX:t<=c[g].size:=oM
     have bY: ¬9223372036854775807<c[g].size:=oM
     clear N aP aN ao ab ac aM ak;go_wp2;go_quiet ((go_at_call 115;exact Calls.quiet_of_same (be _)));go_wp2;refine wp_region_still_tail 18 oP oP ?_;simp only[jC,World.drew_eq];repeat still_step
     refine wpStill_nil ?_;go_wp2;go_roundw;case rel=>
      have a0:c.getD ((g:Int)).toNat cb=c[g]:=by simp[ae]
      refine⟨k+1,c.set g (mX t V c[g]),oM,oQ,by rw[List.length_set];exact E.o,?_,?_,?_,Bx.jc ((J.alloc _).drewN _) oN _,Bx.jc ((s.alloc _).drewN _) oN _,Bx.jc ((y.alloc _).drewN _) oN _,iT (b:=h) (Below.drewN (z.alloc oM _) _) oM⟩;intro H G;rcases df G with G|rfl;exact af.o H G;rw[yL oM (by have:=bv.o;have:=aO.o;omega)];exact aO.o;rw[<-ag.o,Dc ad,bh.o];simp only;rw[a0,bd.o];simp;have a2:((wr.alloc (.cells #[Value.int IntKind.i64 g,Value.string V] 80)).drewN (nq+1)).ownsRow w1.heap.size 9 1 (hA (b7 ⟨h,0,b4⟩) d.gG.length q) d.gG.length (c.map .string):=m.alloc _;have:=(a2.stored g (Value.string (mX t V c[g]))).1;simpa[List.map_set,mX] using this
     case measure=>simp[intOf];omega
    focus have aI:Hid (nG gP d.size 0 d.gH d.gG=c):=by unfold Hid;rw[<-ag.o];exact Dg _ _ _ oM
   rotate_left;focus
    have a7:Hid (k=d.gH.length):=by unfold Hid;omega
    have aI:Hid (nG gP d.size 0 d.gH d.gG=c):=by unfold Hid;rw[<-ag.o,a7.o,da];rfl
   all_goals clear A;have A:=s.cell;obtain⟨L,bK,Y⟩:=y.c3;go_wp2;refine cp (v:= hF #[gE ha d.size, hA (b7 ⟨h,0,b4⟩) d.gG.length q, hA b4 0 0, gE ha (-1)]) (by simp[cJ,results66,go_sem,L]) rfl ?_;rw[aI.o];obtain⟨ah,bw,aw,bc,bb,_⟩:=nC m;simp only[Value.slice.injEq] at aw;obtain⟨rfl,_,rfl⟩:=aw;refine⟨_,rfl,⟨b7 ⟨h,0,b4⟩,q,b4,0,by simp only[E.o,List.length_nil],?_,by intro i r;simp at r,Dd (by rw[E.o];exact bc) (by rw[E.o];exact a') fun H G=>by have:=af.o H G;omega⟩,nX (b:=w.heap.size+1) z oM⟩;refine mW.mono (S:=fun b=>w1.heap.size<=b/\b<wr.heap.size) ?_ fun b r=>Gr.new oM oN;exact(mW.js bb).same ((Same.refl _ _).kz (b:=w.heap.size+1) oM)
theorem ID (d:ik) (v:ck) (gP:List Int) (h:Option Addr) (r:Nat) (w:b1) (c:ja S w v d) (z:lp T w h gP) (A:gP.length<=1000000) (y:d.gH.length<=1000000):
  cn b2 66 #[v, hA h gP.length r] w (tN S w (ma d gP)):=by
 unfold ma;cases g:(iW d !=0);rw[if_neg (by simpa using g)];exact IC d v gP h r w c z A y (by simpa using g);rw[if_pos (by simpa using g)];have x:=c;obtain⟨J,I,C,B,rfl,G,E,H⟩:=c;have p: ∀o q,b3 w.heap.size w ((w.alloc o).alloc q):=fun o q=>((cd _ _).alloc (cj _) _).alloc oC _;go_enter func66,ntmps66;go_wp2_with fail;refine(rD d _ _ (x.below (p _ _))).mono ?_;rintro e w1 ⟨rfl,m⟩;have s:=(Bx.new (w.alloc _) _ _).gD m;rw[cg] at s;obtain⟨t,D⟩:=s.cf;have u:b3 w.heap.size w w1:=(p _ _).trans (m.mono oN);go_wp2;refine cp (v:= hF #[gE ha 0, hA b4 0 0, hA b4 0 0, gE ha 0]) (by simp[cJ,results66,go_sem,t]) rfl ?_;exact⟨_,rfl,rE _,nX (b:=w.heap.size+1) u oM⟩
def tA:List ByteArray->List ByteArray->Bool
 | x::l,y::m=>(x==y)&&tA l m
 | _,_=>b5
def sJ:List PW->List PW->Bool
 | x::l,y::m=>(x.page==y.page)&&(x.data==y.data)&&sJ l m
 | _,_=>b5
def na (a b:ik):Bool:=(a.size==b.size)&&(a.left==b.left)&&(a.gG.length==b.gG.length)&&(a.gH.length==b.gH.length)&&tA a.gG b.gG&&sJ a.gH b.gH
theorem IE (a b:ik) (ar au:ck) (w:b1) (ay:ja S w ar a) (az:ja S' w au b):
  cn b2 18 #[ar,au] w fun e w'=>e= ht (.bool (na a b))/\b3 w.heap.size w w':=by
 obtain⟨ap,am,af,ad,rfl,aI,aB,ab⟩:=ay;obtain⟨aq,ao,ag,ae,rfl,aJ,aC,ac⟩:=az;have aM:=ab.gG;have aO:=ab.gH;have aN:=ac.gG;have aP:=ac.gH;clear ab ac;have u: ∀o al,b3 w.heap.size w ((w.alloc o).alloc al):=fun o al=>((cd _ _).alloc (cj _) _).alloc oC _;cases h:(a.size !=b.size);.
  cases m:(a.left !=b.left);.
   cases B:((a.gG.length:Int)!=(b.gG.length:Int));.
    cases C:((a.gH.length:Int)!=(b.gH.length:Int));.
     have av:=gF h;have aw:=gF m;go_enter cW,cP;go_wp2
     go_loopw [5] (fun i wr=> ∃(k:Nat),k<=a.gG.length/\i= gE ha k/\tA (a.gG.drop k) (b.gG.drop k)=tA a.gG b.gG/\b3 w.heap.size w wr/\w.heap.size+1<wr.heap.size/\qf wr w.heap.size a.size a.left ap af a.gG.length am a.gH.length ad/\qf wr (w.heap.size+1) b.size b.left aq ag b.gG.length ao b.gH.length ae) (fun i _=>a.gG.length - (intOf i).toNat)
     case atStart=>exact⟨0,db _,rfl,rfl,u _ _,oC,⟨by simp[go_sem],by simp[go_sem],by simp[go_sem],by simp[go_sem]⟩,⟨by simp[go_sem],by simp[go_sem],by simp[go_sem],by simp[go_sem]⟩⟩
     case round=>
      obtain⟨k,aj,rfl,x,c,y,N,O⟩:=hrel;have q:=gF x;clear x;have ah:=gF N;have ai:=gF O;obtain⟨D,G,I,L⟩:=N;obtain⟨E,H,J,M⟩:=O;have Z:a.gG.length=b.gG.length:=by have:=B;simp at this;omega
      have aa:a.gH.length=b.gH.length:=by have:=C;simp at this;omega
      have aH:=gF Z;have ak:=gF aa
      by_cases g:k<a.gG.length
      .
       have p:k<b.gG.length:=oM
       obtain⟨z,U,rfl,r,_⟩:=aI k g;obtain⟨A,V,rfl,s,_⟩:=aJ k p;have aD:wr.cell? ⟨z,U+k,b4⟩=b7 (hE a.gG[k]):=by rw[c.cell (b8 w _ r)];exact r
       have aE:wr.cell? ⟨A,V+k,b4⟩=b7 (hE b.gG[k]):=by rw[c.cell (b8 w _ s)];exact s
       clear r s Z aa h m B C;cases t:(a.gG[k].toList==b.gG[k].toList);. go_wp2;go_quiet (fail);go_wp2;go_ret;exact⟨by rw[<-cE] at t;unfold na;rw[<-q.o,b9 g,b9 p];simp[tA,t],Below.drewN c _⟩
       go_wp2;go_quiet (fail);go_wp2;go_roundw;case rel=>exact⟨k+1,oM,oQ,by rw[<-q.o,b9 g,b9 p];rw[<-cE] at t;simp[tA,t],Below.drewN c _,y,⟨D,G,I,L⟩,⟨E,H,J,M⟩⟩
       case measure=>simp[intOf];omega
      have aG:Hid (k=a.gG.length):=by unfold Hid;omega
      have aA:Hid (tA a.gG b.gG=b5):=by unfold Hid;rw[<-q.o,aG.o,da];simp[tA]
      clear Z aa h m B C;have aF:a.gG.length<=k:=oM
      go_wp2
      go_loopw [6] (fun i wr=> ∃(k:Nat),k<=a.gH.length/\i= gE ha k/\sJ (a.gH.drop k) (b.gH.drop k)=sJ a.gH b.gH/\b3 w.heap.size w wr/\w.heap.size+1<wr.heap.size/\qf wr w.heap.size a.size a.left ap af a.gG.length am a.gH.length ad/\qf wr (w.heap.size+1) b.size b.left aq ag b.gG.length ao b.gH.length ae) (fun i _=>a.gH.length - (intOf i).toNat)
      case atStart=>exact⟨0,db _,rfl,rfl,c,y,ah.o,ai.o⟩
      case round=>
       clear ah ai D G I L E H J M c y aF aj g;obtain⟨k,aj,rfl,x,c,y,N,O⟩:=hrel;have q:=gF x;clear x;obtain⟨D,G,I,L⟩:=N;obtain⟨E,H,J,M⟩:=O
       by_cases g:k<a.gH.length
       .
        have p:k<b.gH.length:=by have:=ak.o;omega
        obtain⟨z,U,rfl,r,X,_⟩:=aB k g;obtain⟨A,V,rfl,s,Y,_⟩:=aC k p;have aD:wr.cell? ⟨z,U+k * 2,b4⟩=b7 (gE ha a.gH[k].page):=by rw[c.cell (b8 w _ r)];exact r
        have aE:wr.cell? ⟨z,U+k * 2+1,b4⟩=b7 (hE a.gH[k].data):=by rw[c.cell (b8 w _ X)];exact X
        have aK:wr.cell? ⟨A,V+k * 2,b4⟩=b7 (gE ha b.gH[k].page):=by rw[c.cell (b8 w _ s)];exact s
        have aL:wr.cell? ⟨A,V+k * 2+1,b4⟩=b7 (hE b.gH[k].data):=by rw[c.cell (b8 w _ Y)];exact Y
        clear r s X Y;cases t:(a.gH[k].page==b.gH[k].page);. go_wp2;go_quiet (fail);go_wp2;go_ret;exact⟨by unfold na;rw[<-q.o,b9 g,b9 p];simp[sJ,t],Below.drewN c _⟩
        cases R:(a.gH[k].data.toList==b.gH[k].data.toList);. go_wp2;go_quiet (fail);go_wp2;go_ret;exact⟨by rw[<-cE] at R;unfold na;rw[<-q.o,b9 g,b9 p];simp[sJ,R],Below.drewN c _⟩
        go_wp2;go_quiet (fail);go_wp2;go_roundw;case rel=>exact⟨k+1,oM,oQ,by rw[<-q.o,b9 g,b9 p];rw[<-cE] at R;simp[sJ,t,R],Below.drewN c _,y,⟨D,G,I,L⟩,⟨E,H,J,M⟩⟩
        case measure=>simp[intOf];omega
       have ax:Hid (sJ a.gH b.gH=b5):=by
        have e:k=a.gH.length:=oM
        unfold Hid;rw[<-q.o,e,da];simp[sJ]
       go_wp2;go_ret;exact⟨by have h:=av.o;have m:=aw.o;simp at h m;simp[na,aA.o,ax.o,aH.o,ak.o,h,m],c⟩
    go_enter cW,cP;go_wp2;go_ret;exact⟨by simp at C;simp[na];omega,u _ _⟩
   go_enter cW,cP;go_wp2;go_ret;exact⟨by simp at B;simp[na];omega,u _ _⟩
  go_enter cW,cP;go_wp2;go_ret;exact⟨by simp at m;simp[na,m],u _ _⟩
 go_enter cW,cP;go_wp2;go_ret;exact⟨by simp at h;simp[na,h],u _ _⟩
structure jv (W:b1) where
 w:b1
 h:b3 W.heap.size W w
instance (W:b1):Nonempty (jv W):=⟨⟨W,cd _ _⟩⟩
theorem p3 {id:Nat} {Q:Exit->Act->b1->Prop} {a:Act} {l:List Oper} (g:P.follows .mixedOrders=b5) (c:Region.lexB .any l.toArray=b5)
  (h:dm P l.toArray (fun w'=> ∃x:jv w,w'=x.w) (fun b=> ∀w',(∃x:jv w,w'=x.w)->Q .normal b w') l a):(Code.region id l.toArray b5).wp P Q a w:=
 wp_region_quiet (C:=fun w'=> ∃x:jv w,w'=x.w) g c ⟨⟨_,(cd _ _).drew⟩,rfl⟩ (by simpa using h)
theorem Calls.rH {x:jv W}
  (h:cn P f args x.w fun e w'=>e= ht v/\b3 x.w.heap.size x.w w'):cn P f args x.w fun e w'=>e= ht v/\ ∃y:jv W,w'=y.w:=
 h.mono fun _ _ ⟨he,hb⟩=>⟨he,⟨_,x.h.trans (hb.mono x.h.size)⟩,rfl⟩
theorem jv.cells (W:b1): ∀(x:jv W) (b o:Nat),b<W.heap.size->x.w.cell? ⟨b,o,b4⟩=W.cell? ⟨b,o,b4⟩:=fun x _ _ c=>x.h.cell (p:=⟨_,_,b4⟩) c
theorem Below.one (w:b1) (o:Obj):b3 w.heap.size w (w.alloc o):=(cd _ _).alloc (cj _) _
theorem Below.then {B:Nat} (h:b3 B w w1) (k:b3 w1.heap.size w1 w2) (b:B<=w1.heap.size):b3 B w w2:=h.trans (k.mono b)
theorem IG {b:Int} {l:List ByteArray} (h: ∀s∈l,(s.size:Int)=b):mA b l=true:=by
 induction l with
 | nil=>rfl
 | cons m l g=>simp[mA,h m oC,g fun s c=>h s (by simp[c])]
theorem IH {b:Int} {l:List PW} (h: ∀x∈l,0<=x.page/\x.page<n/\(x.data.size:Int)=b):lI n b l=0:=by
 induction l with
 | nil=>rfl
 | cons x l m=>obtain⟨a,q,c⟩:=h x oC;rw[lI,if_neg oM,if_neg (by simp[c])];exact m (fun p g=>h p (by simp[g]))
theorem yM (b:qy d.gG.length d.size=b5) (c: ∀s∈d.gG,(s.size:Int)=d.size) (g: ∀x∈d.gH,0<=x.page/\x.page<d.gG.length/\(x.data.size:Int)=d.size) (h: -1<=d.left):iW d=0:=by
 unfold iW;rw[if_neg (by simp[b]),if_neg (by simp[IG c]),if_neg (by simp[IH g]),if_neg oM]
theorem vG {gP:List Int} {b:Int}: ∀(l:List PW) (k:Nat) (ps:List ByteArray),(nG gP b k l ps).length=ps.length
 | [],_,_=>rfl
 | x::r,k,ps=>by rw[nG,vG r];simp
theorem Dh {α:Type} {P:α->Prop} {l:List α} {x:α} (h: ∀y∈l,P y) (c:P x): ∀y∈l.set i x,P y:=by
 intro y g;rcases df g with b|rfl;exact h y b;exact c
theorem AB {z:Int} {ps:List ByteArray} (h: ∀s∈ps,(s.size:Int)=z) (b:i<ps.length):((ps.getD i cb).size:Int)=z:=by
 simp only[dj,di b,Option.getD_some];exact h _ (cM _)
theorem yN {z:Int} {s:ByteArray} (b:0<=z) (h:(s.size:Int)=z):(sr gP k z).toNat<=s.size:=by
 have:=(Au gP k z b).2;omega
theorem AD {gP:List Int} {z:Int} (b:0<=z): ∀(l:List PW) (k:Nat) (ps:List ByteArray),(∀s∈ps,(s.size:Int)=z)->(∀x∈l,0<=x.page/\x.page<ps.length/\(x.data.size:Int)=z)-> ∀s∈nG gP z k l ps,(s.size:Int)=z
 | [],_,_,hp,_=>hp
 | x::r,k,ps,hp,hl=>by obtain⟨p,q,c⟩:=hl x oC;rw[nG];refine AD b r (k+1) _ (Dh hp ?_) (fun m h=>by have:=hl m (by simp[h]);simpa using this);have g:=AB (i:=x.page.toNat) hp oM;rw[yL (yN b c) oM];exact g
theorem II (h:iW d=0) (gP:List Int):iW (ma d gP)=0:=by
 obtain⟨b,c,g,m⟩:=nY h;have p:=pd b;unfold ma;rw[if_neg (by simp[h])];refine yM ?_ ?_ oC oC;simpa[vG] using b;exact AD oM d.gH 0 d.gG c g
theorem AE (h:iW d=0) (gP:List Int):(ma d gP).gG.length=d.gG.length:=by
 unfold ma;rw[if_neg (by simp[h])];exact vG _ _ _
theorem IJ (h:iW d=0) (gP:List Int):(ma d gP).size=d.size:=by
 unfold ma;rw[if_neg (by simp[h])]
theorem IK (h:iW d=0) (l:Int) (m: -1<=l):iW ⟨d.size,o9 d,[],l⟩=0:=by
 obtain⟨b,c,g,r⟩:=nY h;refine yM ?_ ?_ oC m;simpa[uG] using b;exact AA c (fun q p=>(g q p).2.2)
theorem Di (h: -1<=d.left): -1<=(jt d).left:=by unfold jt;simp only;split<;>omega
theorem IL (h:iW d=0) {i:Int} (q:0<=i) (r:i<d.gG.length) (s:(data.size:Int)=d.size):iW { jt d with gH:=d.gH++[⟨i,data⟩] }=0:=by
 obtain⟨c,g,m,p⟩:=nY h;refine yM c g ?_ (Di p);intro t b;rcases jD.1 b with b|b;exact m t b;obtain rfl:=lx.1 b;exact⟨q,r,s⟩
theorem AG (h:iW d=0) (b:k<d.gG.length):lO d k=(nv d k b,0):=by
 unfold lO;rw[if_neg (by simp[h]),if_neg oM];simp[b]
theorem IM (d:ik):((ow d).2=1/\iW d≠0/\(ow d).1=jX)\/((ow d).2=18/\iW d=0/\d.left=0/\(ow d).1=d)\/((ow d).2=0/\iW d=0/\d.left≠0/\(ow d).1=⟨d.size,o9 d,[],(jt d).left⟩):=by
 unfold ow
 by_cases b:iW d≠0
 simp[b]
 by_cases c:d.left=0<;>simp[b,c]<;>simpa using b
theorem Dj (d:ik) (i:Int) (data:ByteArray):((mR d i data).2≠0/\(mR d i data).2≠18/\(mR d i data).1=jX)\/
  (iW d=0/\0<=i/\i<d.gG.length/\(data.size:Int)=d.size/\(((mR d i data).2=18/\d.left=0/\(mR d i data).1=d)\/((mR d i data).2=0/\d.left≠0/\(mR d i data).1={ jt d with gH:=d.gH++[⟨i,data⟩] }))):=by
 unfold mR
 by_cases b:iW d≠0
 simp[b]
 by_cases c:i<0\/(d.gG.length:Int)<=i
 simp[b,c]
 by_cases g:(data.size:Int)≠d.size
 rw[if_neg b,if_neg c,if_pos g];simp;right;refine⟨by simpa using b,oM,oM,by simpa using g,?_⟩;rw[if_neg b,if_neg c,if_neg g]
 by_cases h:d.left=0<;>simp[h]
theorem IP {i:Int} (hk:k<d.gG.length) (e:ik) (b:e={ jt d with gH:=d.gH++[⟨i,data⟩] }) (c:k<e.gG.length):
  nv e k c=if i=k then data else nv d k hk:=by
 subst b;unfold nv;simp only[jt];rw[Db];rfl
theorem IQ (hk:k<d.gG.length) (e:ik) (b:e=⟨d.size,o9 d,[],l⟩) (c:k<e.gG.length):nv e k c=nv d k hk:=by
 subst b;simp[nv,o9,jl]
theorem IU {z:Int} {ps:List ByteArray}:nG gP z 0 [] ps=ps:=rfl
theorem IV (h:iW d=0) (gP:List Int) (c:k<(ma d gP).gG.length):
  nv (ma d gP) k c=(nG gP d.size 0 d.gH d.gG)[k]'(by rw[vG];rwa[AE h] at c):=by
 have e:ma d gP=⟨d.size,nG gP d.size 0 d.gH d.gG,[],-1⟩:=by unfold ma;rw[if_neg (by simp[h])]
 have: ∀(b:ik) (g:k<b.gG.length),b=⟨d.size,nG gP d.size 0 d.gH d.gG,[],-1⟩->nv b k g=(nG gP d.size 0 d.gH d.gG)[k]'(by rw[vG];rwa[AE h] at c):=by rintro b g rfl;simp[nv,jl]
 exact this _ c e
def sK (s:ByteArray) (i:Nat):UInt8:=s.data[i]?.getD 0
theorem IW {a b:ByteArray} (h:n<=a.size) (i:Nat):sK (mX n a b) i=sK (if i<n then a else b) i\/b.size<n:=by
 by_cases m:b.size<n
 exact .inr m;left;unfold sK mX;rw[ByteArray.data_append,dc,dc];rw[Array.getElem?_append];have g:(a.data.extract 0 n).size=n:=oN
 rw[g]
 by_cases c:i<n
 rw[if_pos c,if_pos c,dk];simp;rw[if_pos oM];rw[if_neg c,if_neg c,dk];simp;have q:b.data.size=b.size:=rfl
 by_cases p:i<b.size
 rw[if_pos oM];rw[show n+(i - n)=i from by omega];rw[if_neg oM,Array.getElem?_eq_none oM]
theorem Dk {gP:List Int} {z:Int} (g:0<=z) (j i:Nat): ∀(l:List PW) (k:Nat) (ps:List ByteArray),(∀s∈ps,(s.size:Int)=z)->(∀x∈l,0<=x.page/\x.page<ps.length/\(x.data.size:Int)=z)->(c:j<ps.length)->
  sK ((nG gP z k l ps).getD j cb) i=sK ps[j] i\/ ∃x∈l,x.page=j/\sK ((nG gP z k l ps).getD j cb) i=sK x.data i
 | [],_,ps,_,_,c=>by left;simp[nG,dj,c]
 | x::r,k,ps,hp,hl,c=>by
  obtain⟨A,B,m⟩:=hl x oC;have y:=AB (i:=x.page.toNat) hp oM;rw[nG];rcases Dk (gP:=gP) g j i r (k+1) (ps.set x.page.toNat (mX (sr gP k z).toNat x.data (ps.getD x.page.toNat cb))) (Dh hp (by rw[yL (yN g m) oM];exact y)) (fun t q=>by have:=hl t (by simp[q]);simpa using this) (by simpa using c) with h|⟨t,q,h⟩;.
   rw[h,List.getElem_set]
   by_cases p:x.page.toNat=j
   rw[if_pos p];have C:(ps.getD x.page.toNat cb).size=x.data.size:=oM
   rcases IW (b:=ps.getD x.page.toNat cb) (yN (gP:=gP) (k:=k) g m) i with u|u;rw[u];split;exact .inr ⟨x,oC,oM,rfl⟩;left;rw[p];simp[dj,c];exact absurd (yN (gP:=gP) (k:=k) g m) oM;rw[if_neg p];exact .inl rfl
  exact .inr ⟨t,by simp[q],h⟩
theorem Dl: ∀l,tA l l=b5
 | []=>rfl
 | x::l=>by rw[tA,Dl l,cE];simp
theorem Dm: ∀l,sJ l l=b5
 | []=>rfl
 | x::l=>by rw[sJ,Dm l,cE];simp
theorem IX (d:ik):na d d=true:=by simp[na,Dl,Dm]
theorem IY (a:ik) (b c:ck) (w:b1) (g:ja S w b a) (h:ja S' w c a):
  cn b2 18 #[b,c] w fun e w'=>e= ht (.bool b5)/\b3 w.heap.size w w':=by
 rw[<-IX a];exact IE a a b c w g h
theorem iq (h:b3 w.heap.size w w1) (k:b3 w1.heap.size w1 w2):b3 w.heap.size w w2:=Below.then h k h.size
def qh (n k:Nat):List UInt8:=cy (8 - k) 0++(jh n).drop (8 - k)
theorem IZ (n k:Nat) (c:k<8):(lH (qh n k)).toArray[7 - k]?=b7 (.int .u8 0):=by
 have b:(qh n k)[7 - k]?=b7 0:=by unfold qh;rw[List.getElem?_append_left (by rw[List.length_replicate];omega),List.getElem?_replicate,if_pos oM]
 simp[lH,b]
theorem I0 (n k:Nat) (b:k<8):(lH (qh n k)).toArray.setIfInBounds (7 - k) (.int .u8 ((n:Int) / 2 ^ (8 * k) % 256))=(lH (qh n (k+1))).toArray:=by
 have e:((n:Int) / 2 ^ (8 * k) % 256)=((n / 2 ^ (8 * k) % 256:Nat):Int):=by rw[Int.natCast_emod,Int.natCast_ediv,Int.natCast_pow];rfl
 rw[e];rcases k with _|_|_|_|_|_|_|_|k;case succ=>omega
 all_goals simp[lH,qh,jh]
theorem I1 (n:Nat):qh n 8=jh n:=by simp[qh]
theorem xv (m c:Nat) (r:m<72057594037927936) (q:c<256):bits .or .i64 (cF ((m:Int) * 256)) (cF (c:Int))=cF ((m:Int) * 256+c):=by
 have g:(c7 64 (cF ((m:Int) * 256))).toNat=m * 256:=by rw[dt];unfold cF;omega
 have h:(c7 64 (cF (c:Int))).toNat=c:=by rw[dt];unfold cF;omega
 have p:m * 256 ||| c=m * 256+c:=by have:=Nat.shiftLeft_add_eq_or_of_lt (b:=c) (i:=8) oM m;rw[Nat.shiftLeft_eq] at this;simpa using this.symm
 show IntKind.i64.wrap ((c7 64 (cF ((m:Int) * 256)) ||| c7 64 (cF (c:Int))).toNat:Int)=_;rw[BitVec.toNat_or,g,h,p];simp[IntKind.wrap,IntKind.bits,IntKind.signed,cF];split<;>omega
theorem Dn (x:Int): -9223372036854775808<=cF x/\cF x<=9223372036854775807:=by unfold cF;omega
theorem AH (m:Nat) (c:UInt8) (g:m<=281474976710656):bits .or .i64 ((m:Int) * 256) (cF (c.toNat:Int))=((m * 256+c.toNat:Nat):Int):=by
 have b:=c.toNat_lt;have:=xv m c.toNat oM oM;rw[c4 ((m:Int) * 256) oM,c4 ((m:Int) * 256+c.toNat) oM] at this;rw[this];simp
structure Rec where
 x:Nat->ck
 lo:Nat
 hi:Nat
structure mS where
 f:Rec->ck
 Φ:Rec->b1->Prop
abbrev kg:=Nat->Option mS
abbrev iz:=Nat->Option Rec
def nU (ξ:iz) (i:Nat) (ρ:Option Rec):iz:=match ρ with|none=>ξ|some r=>fun j=>if j=i then b7 r else ξ j
theorem Dp {ξ:iz} {ρ σ:Option Rec} (h:i≠j):nU (nU ξ i ρ) j σ=nU (nU ξ j σ) i ρ:=by
 cases ρ<;>cases σ<;>simp only[nU]
 funext k
 by_cases c:k=j
 subst c;rw[if_pos rfl,if_neg fun e=>h e.symm,if_pos rfl];rw[if_neg c]
 by_cases b:k=i
 rw[if_pos b,if_pos b];rw[if_neg b,if_neg b,if_neg c]
def sL (an:kg) (ξ:iz) (j:Nat) (w:b1):Prop:= ∀A r,an j=b7 A->ξ j=b7 r-> ∀w',b3 w.heap.size w w'->A.Φ r w'
theorem Dq {an:kg} {ξ:iz} {ρ:Option Rec} (h:j≠i):sL an (nU ξ i ρ) j w↔sL an ξ j w:=by
 cases ρ with
 | none=>exact Iff.rfl
 | some b=>unfold sL nU;simp only[if_neg h]
section
variable {P:cx} {ops:Array Oper} {md:cq} {W0:b1} {an:kg}
def oT (md:cq) (ops:Array Oper):Nat->List Nat->List Nat
 | 0,S=>S
 | f+1,S=>oT md ops f ((cC ops.size).filter fun j=>S.contains j||S.any fun k=>Region.waitsFor md ops k j)
def mH (md:cq) (ops:Array Oper) (t j:Nat):Bool:=(oT md ops 8 [t]).contains j
theorem yO {t:Nat} {listed:Array Bool} (s: ∀k u,ops[t]?=b7 u->(∃e∈u.after,cD md e=b5/\e.on=k)->listed.getD k ch=b5)
  (m: ∀j c,ops[j]?=b7 c->listed.getD j ch=b5-> ∀e∈c.after,cD md e=b5->listed.getD e.on ch=b5):
  ∀(f:Nat) (S:List Nat),(∀k∈S,k=t\/listed.getD k ch=b5)-> ∀k∈oT md ops f S,k=t\/listed.getD k ch=b5
 | 0,_,h=>h
 | f+1,S,h=>by refine yO s m f _ fun k b=>?_;obtain⟨_,b⟩:=List.mem_filter.1 b;rcases Bool.or_eq_true_iff.1 b with b|b;exact h k (by simpa using b);obtain⟨j,x,z⟩:=List.any_eq_true.1 b;obtain⟨c,q,e,p,g,r⟩:=Region.waitsFor_spec z;right;rcases h j x with rfl|y;exact s k c q ⟨e,p,g,r⟩;rw[<-r];exact m j c q y e p g
theorem r4 {t j:Nat} {listed:Array Bool} (q:t∈cm md ops listed)
  (g: ∀j b,ops[j]?=b7 b->listed.getD j ch=b5-> ∀e∈b.after,cD md e=b5->listed.getD e.on ch=b5) (h:mH md ops t j=b5):j=t\/listed.getD j ch=true:=by
 obtain⟨_,ot,p,c⟩:=cS.1 q;refine yO (t:=t) (fun k PB h1 ⟨e,he,hb,xw⟩=>?_) g 8 [t] (fun k m=> .inl (by simpa using m)) j (by simpa[mH] using h);obtain rfl:PB=ot:=b6 (h1.symm.trans p);rw[<-xw];exact c e he hb
def rh:Op->Bool
 | .move _| .assign _| .pick .. | .load .. | .binOp .. | .unOp .. | .convert .. | .slice .. | .fieldAddr .. | .field .. | .indexAddr .. | .index .. | .extract .. =>b5
 | .call c=>match c.callee with
  | .builtin .len| .builtin .cap=>b5
  | _=>ch
 | _=>ch
def ix (P:cx) (o:Oper) (a:Act) (w:b1) (Post:ck->b1->Prop):Prop:=
 match (c8 a.eval o).run P w with
 | .ok (.value u) w'=>Post u w'
 | .ok .skip w'=>Post undef w'
 | .ok (.enter f args) w'=>cn P f args w' fun e w''=> ∃v,e= ht v/\Post v w''
 | _=>False
theorem AJ {o:Oper} {a:Act} {w:b1} {b:ck->b1->Prop} {K:Act->b1->Prop} {Q:Exit->Act->b1->Prop} (h:ix P o a w b) (hK: ∀v w',b v w'->K (a.put o.dst v) w'):o.wp P a w K Q:=by
 unfold ix at h;unfold Oper.wp;generalize (c8 a.eval o).run P w=r at *;cases r with
 | ok n w'=>
  cases n<;>simp only[Oper.upon] at h |-
  case value u=>exact hK _ _ h
  case skip=>exact hK _ _ h
  case enter f args=>exact h.mono fun e w'' ⟨v,he,hp⟩=>by subst he;exact hK _ _ hp
 | halt c w'=>exact h.elim
def ri (W0:b1) (w:b1):Prop:= ∃y:jv W0,w=y.w
def pR (A:mS) (w:b1) (v:ck) (w':b1):Prop:=b3 w.heap.size w w'/\ ∃x,v=A.f ⟨x,w.heap.size,w'.heap.size⟩/\ ∀w'',b3 w'.heap.size w' w''->A.Φ ⟨x,w.heap.size,w'.heap.size⟩ w''
def I2 (P:cx) (ops:Array Oper) (md:cq) (an:kg) (W0:b1) (i:Nat) (o:Oper) (A:mS) (ξ:iz) (a:Act):Prop:=
 ∀w,b3 W0.heap.size W0 w->(∀j,mH md ops i j=b5->sL an ξ j w)->ix P o a w (pR A w)
inductive mf (P:cx) (ops:Array Oper) (md:cq) (an:kg) (W0:b1) (i:Nat) (o:Oper) (ξ:iz) (a:Act):(Option Rec->ck->Prop)->Prop
 | skip (hw:cw o (c9 ops a.tmps)=ch):mf P ops md an W0 i o ξ a (fun ρ v=>ρ=b4/\v=undef)
 | quiet (v:ck) (hw:cw o (c9 ops a.tmps)=b5) (hn:an i=b4) (hr: ∀w,ri W0 w->(c8 a.eval o).run P w= .ok (.value v) w):mf P ops md an W0 i o ξ a (fun ρ u=>ρ=b4/\u=v)
 | mC (A:mS) (hw:cw o (c9 ops a.tmps)=b5) (hn:an i=b7 A) (hl:I2 P ops md an W0 i o A ξ a):mf P ops md an W0 i o ξ a (fun ρ u=> ∃r,ρ=b7 r/\u=A.f r)
theorem mf.some {i:Nat} {o:Oper} {ξ:iz} {a:Act} {S:Option Rec->ck->Prop} (h:mf P ops md an W0 i o ξ a S): ∃ρ v,S ρ v:=by
 cases h;exact⟨_,_,rfl,rfl⟩;exact⟨_,_,rfl,rfl⟩;exact⟨_,_,⟨fun _=>undef,0,0⟩,rfl,rfl⟩
theorem yP (W0:b1):ri W0 W0:=⟨⟨W0,cd _ _⟩,rfl⟩
theorem mf.uniq {i:Nat} {o:Oper} {ξ:iz} {a:Act} {S S':Option Rec->ck->Prop} (h:mf P ops md an W0 i o ξ a S) (p:mf P ops md an W0 i o ξ a S'):S=S':=by
 cases h with
 | skip g=>cases p with
  | skip=>rfl
  | quiet _ b=>rw[g] at b;cases b
  | mC _ b=>rw[g] at b;cases b
 | quiet v g m q=>cases p with
  | skip b=>rw[g] at b;cases b
  | quiet x _ _ r=>
   have e:=(q W0 (yP W0)).symm.trans (r W0 (yP W0));injection e with e1 e2
   injection e1 with e3
   rw[e3]
  | mC _ _ c=>rw[m] at c;cases c
 | mC s g m u=>cases p with
  | skip b=>rw[g] at b;cases b
  | quiet _ _ c=>rw[m] at c;cases c
  | mC t _ c=>rw[m] at c;cases c;rfl
theorem mf.apart {i:Nat} {oi:Oper} {ξ ξ':iz} {a g:Act} {S:Option Rec->ck->Prop} (q:c8 g.eval oi=c8 a.eval oi) (p:cw oi (c9 ops g.tmps)=cw oi (c9 ops a.tmps))
  (t: ∀k w,mH md ops i k=b5->(sL an ξ' k w->sL an ξ k w)) (h:mf P ops md an W0 i oi ξ a S):mf P ops md an W0 i oi ξ' g S:=by
 cases h with
 | skip b=>exact .skip (p▸b)
 | quiet v b m c=>exact .quiet v (p▸b) m (by rw[q];exact c)
 | mC r b m x=>refine .mC r (p▸b) m fun w s u=>?_;have:=x w s fun k c=>t k w c (u k c);unfold ix at this |-;rw[q];exact this
def mm (P:cx) (ops:Array Oper) (md:cq) (an:kg) (W0:b1) (i:Nat) (o:Oper) (ξ:iz) (a:Act) (K:iz->Act->Prop):Prop:=
 ∃S,mf P ops md an W0 i o ξ a S/\ ∀ρ v,S ρ v->K (nU ξ i ρ) (a.put o.dst v)
theorem mm.mono {i:Nat} {o:Oper} {ξ:iz} {a:Act} {K K':iz->Act->Prop} (h:mm P ops md an W0 i o ξ a K) (hK: ∀ξ a,K ξ a->K' ξ a):mm P ops md an W0 i o ξ a K':=by
 obtain⟨S,b,c⟩:=h;exact⟨S,b,fun ρ v hs=>hK _ _ (c ρ v hs)⟩
theorem mm.swap {i j:Nat} {oi c:Oper} {ξ:iz} {a:Act} {S:Option Rec->ck->Prop} {K:iz->Act->Prop} (B:i≠j) (A:oi.apart ops c=b5)
  (G: ∀q b,oi.op≠ .select q b) (H: ∀q b,c.op≠ .select q b) (C:mH md ops i j=ch) (D:mH md ops j i=ch)
  (x:mf P ops md an W0 i oi ξ a S) (h: ∀ρ v,S ρ v->mm P ops md an W0 j c (nU ξ i ρ) (a.put oi.dst v) K):
  mm P ops md an W0 j c ξ a (fun ξ' a'=>mf P ops md an W0 i oi ξ' a' S/\ ∀ρ v,S ρ v->K (nU ξ' i ρ) (a'.put oi.dst v)):=by
 obtain⟨s,y,t⟩:=Oper.apart_spec A;have p: ∀ρ v T,mf P ops md an W0 j c (nU ξ i ρ) (a.put oi.dst v) T->mf P ops md an W0 j c ξ a T:=fun ρ v T m=>
  mf.apart (execOp_put c H a oi.dst v s).symm (wanted_put c a oi.dst v s).symm (fun k w g r=>(Dq fun e=>by subst e;rw[D] at g;cases g).2 r) m
 obtain⟨ρ0,I,E⟩:=x.some;obtain⟨T,m,_⟩:=h ρ0 I E;refine⟨T,p _ _ _ m,fun σ u hu=>⟨?_,fun ρ v hs=>?_⟩⟩;exact mf.apart (execOp_put oi G a c.dst u t) (wanted_put oi a c.dst u t) (fun k w g r=>(Dq fun e=>by subst e;rw[C] at g;cases g).1 r) x;obtain⟨J,z,hK⟩:=h ρ v hs;have:=(p _ _ _ z).uniq (p _ _ _ m);subst this;have:=hK σ u hu;rw[Dp B,Act.put_comm a v u y] at this;exact this
def AO (P:cx) (ops:Array Oper) (md:cq) (an:kg) (W0:b1) (n:Nat) (L:Array Bool->iz->Act->Prop):Nat->Array Bool->iz->Act->Prop
 | 0,listed,ξ,a=>L listed ξ a
 | f+1,listed,ξ,a=>cm md ops listed≠[]/\ ∀i∈cm md ops listed,i<n/\ ∀o,ops[i]?=b7 o->mm P ops md an W0 i o ξ a (AO P ops md an W0 n L f (listed.setIfInBounds i b5))
structure j2 (md:cq) (ops:Array Oper) (n:Nat) (listed:Array Bool):Prop where
 size:listed.size=ops.size
 closed: ∀j oj,ops[j]?=b7 oj->listed.getD j ch=b5-> ∀e∈oj.after,cD md e=b5->listed.getD e.on ch=b5
theorem j2.set {n i:Nat} {listed:Array Bool} (p:j2 md ops n listed) (s:i∈cm md ops listed):j2 md ops n (listed.setIfInBounds i b5):=by
 obtain⟨_,oi,t,r⟩:=cS.1 s;refine⟨by simp[p.size],fun j q h m e c b=>?_⟩
 by_cases g:i=j
 subst g;have:q=oi:=b6 (h.symm.trans t);subst this;exact getD_set_true (r e c b);rw[getD_set_ne ch g] at m;exact getD_set_true (p.closed j q h m e c b)
def xx (md:cq) (ops:Array Oper) (n:Nat):Bool:=(cC ops.size).all fun t=>decide (t<n)||(cC n).all fun i=>(oT md ops 8 [t]).contains i
theorem I3 {n i:Nat} {oi:Oper} {S:Option Rec->ck->Prop} {L:Array Bool->iz->Act->Prop} (B:ops[i]?=b7 oi) (E: ∀(j:Nat) (o:Oper) u b,ops[j]?=b7 o->o.op≠ .select u b)
  (t:xx md ops n=b5) (U:i<n) (M: ∀listed ξ a,L listed ξ a-> ∀j∈cm md ops listed,n<=j):
  ∀(f:Nat) (listed:Array Bool) (ξ:iz) (a:Act),j2 md ops n listed->
   (∀j oj,ops[j]?=b7 oj->j≠i->listed.getD j b5=ch->(∀e∈oj.after,cD md e=b5->e.on≠i)->oi.apart ops oj=b5)->
   i∈cm md ops listed->mf P ops md an W0 i oi ξ a S->
   (∀ρ v,S ρ v->AO P ops md an W0 n L f (listed.setIfInBounds i b5) (nU ξ i ρ) (a.put oi.dst v))->AO P ops md an W0 n L (f+1) listed ξ a:=by
 intro f;have A: ∀(listed:Array Bool),j2 md ops n listed->i∈cm md ops listed-> ∀j∈cm md ops listed,j<n:=by
  intro listed s g j h;rcases Nat.lt_or_ge j n with p|p;exact p;exfalso;have Y:j<ops.size:=by obtain⟨_,oj,r,_⟩:=cS.1 h;exact(Array.getElem?_eq_some_iff.1 r).1
  have q:=cz.1 t j (cL.2 Y);simp only[Bool.or_eq_true,decide_eq_true_eq] at q;rcases q with q|q;omega;rcases r4 h s.closed (cz.1 q i (cL.2 U)) with c|c;omega;rw[du (cS.1 g).1] at c;cases c
 induction f with
 | zero=>
  intro listed ξ a s _ g hy H;refine⟨fun p=>(by rw[p] at g;cases g),fun j h=>⟨A listed s g j h,fun oj r=>?_⟩⟩
  by_cases m:j=i
  subst m;obtain rfl:oj=oi:=b6 (r.symm.trans B);exact⟨S,hy,H⟩;obtain⟨ρ,v,t⟩:=hy.some;have:=M _ _ _ (H ρ v t) j (ready_mono h m);have:=A listed s g j h;omega
 | succ f ae=>
  intro listed ξ a s nb g hy H;refine⟨fun p=>(by rw[p] at g;cases g),fun j h=>⟨A listed s g j h,fun oj r=>?_⟩⟩
  by_cases m:j=i
  subst m;obtain rfl:oj=oi:=b6 (r.symm.trans B);exact⟨S,hy,H⟩;obtain⟨C,y,ab,I⟩:=cS.1 h;obtain rfl:y=oj:=b6 (ab.symm.trans r);have x:=(cS.1 g).1;have aa: ∀e∈y.after,cD md e=b5->e.on≠i:=fun e N J O=>by have q:=I e N J;rw[O,du x] at q;cases q
  have ac:mH md ops i j=false:=by
   cases p:mH md ops i j with
   | false=>rfl
   | true=>rcases r4 g s.closed p with c|c;exact absurd c m;rw[du C] at c;cases c
  have ad:mH md ops j i=false:=by
   cases p:mH md ops j i with
   | false=>rfl
   | true=>rcases r4 h s.closed p with c|c;exact absurd c.symm m;rw[du x] at c;cases c
  have R: ∀k z,ops[k]?=b7 z->k≠i->(listed.setIfInBounds j b5).getD k b5=ch->
    (∀e∈z.after,cD md e=b5->e.on≠i)->oi.apart ops z=true:=fun k z V X x Z=>by
   refine nb k z V X ?_ Z
   by_cases D:j=k
   . subst D;exact C
   . rw[getD_set_ne b5 D] at x;exact x
  refine(mm.swap (Ne.symm m) (nb j y r m C aa) (fun u b=>E i oi u b B) (fun u b=>E j y u b r) ac ad hy fun ρ v t=>((H ρ v t).2 j (ready_mono h m)).2 y r).mono ?_;rintro ξ' G ⟨q,c⟩;refine ae (listed.setIfInBounds j b5) ξ' G (s.set h) R (ready_mono g (Ne.symm m)) q fun ρ v t=>?_;rw[Array.setIfInBounds_comm _ _ m];exact c ρ v t
structure Good (an:kg) (W0:b1) (ξ:iz) (w:b1):Prop where
 below:b3 W0.heap.size W0 w
 fact: ∀j,sL an ξ j w
 range: ∀j r,ξ j=b7 r->W0.heap.size<=r.lo/\r.lo<=r.hi/\r.hi<=w.heap.size
 apart: ∀i j r s,i≠j->ξ i=b7 r->ξ j=b7 s->r.hi<=s.lo\/s.hi<=r.lo
theorem Good.start (an:kg) {W0 w:b1} (h:b3 W0.heap.size W0 w):Good an W0 (fun _=>b4) w:=
 ⟨h,(fun _ _ _ _ h=>by cases h),(fun _ _ h=>by cases h),fun _ _ _ _ _ h=>by cases h⟩
theorem Good.add {ξ:iz} {w w':b1} {i:Nat} {u:mS} {x:Nat->ck} (h:Good an W0 ξ w) (s:b3 w.heap.size w w') (N:an i=b7 u) (O: ∀p,b3 w'.heap.size w' p->u.Φ ⟨x,w.heap.size,w'.heap.size⟩ p):
  Good an W0 (nU ξ i (b7 ⟨x,w.heap.size,w'.heap.size⟩)) w':=by
 have C:=s.size;have D:=h.below.size;have g: ∀j b,nU ξ i (b7 ⟨x,w.heap.size,w'.heap.size⟩) j=b7 b->(j=i/\b=⟨x,w.heap.size,w'.heap.size⟩)\/(j≠i/\ξ j=b7 b):=by
  intro j b m;unfold nU at m
  by_cases e:j=i
  left;simp only[if_pos e] at m;exact⟨e,(b6 m).symm⟩
  right;simp only[if_neg e] at m;exact⟨e,m⟩
 refine⟨h.below.trans (s.mono D),?_,?_,?_⟩;intro j E b r c p y;rcases g j b c with⟨rfl,rfl⟩|⟨_,c⟩;rw[N] at r;cases r;exact O p y;exact h.fact j E b r c p (s.trans (y.mono C));intro j b c;rcases g j b c with⟨rfl,rfl⟩|⟨_,c⟩;exact⟨D,C,cj _⟩;obtain⟨L,M,R⟩:=h.range j b c;exact⟨L,M,oM⟩;intro j k b q z c B;rcases g j b c with⟨G,H⟩|⟨_,A⟩;rcases g k q B with⟨I,_⟩|⟨_,t⟩;exact absurd (G.trans I.symm) z
 right;rw[H];exact(h.range k q t).2.2
 rcases g k q B with⟨_,J⟩|⟨_,t⟩
 left;rw[J];exact(h.range j b A).2.2
 exact h.apart j k b q z A t
theorem xy {n g:Nat} {L:Array Bool->iz->Act->Prop} {Q':Exit->Act->b1->Prop} (c: ∀listed ξ a w,L listed ξ a->Good an W0 ξ w->wpAny P md ops Q' g listed a w):
  ∀(f:Nat) (listed:Array Bool) (ξ:iz) (a:Act) (w:b1),AO P ops md an W0 n L f listed ξ a->Good an W0 ξ w->wpAny P md ops Q' (f+g) listed a w
 | 0,listed,ξ,a,w,h,hg=>by rw[dp];exact c _ _ _ _ h hg
 | f+1,listed,ξ,a,w,h,hg=>by
  rw[show f+1+g=(f+g)+1 by omega];refine⟨fun r=>absurd r h.1,fun i m=>?_⟩;obtain⟨_,oi,q,_⟩:=cS.1 m;obtain⟨S,s,hK⟩:=(h.2 i m).2 oi q;unfold wpOp;simp only[q];cases s with
  | skip b=>rw[if_neg (by rw[b];exact Bool.false_ne_true)];exact xy c f _ _ _ _ (hK b4 undef ⟨rfl,rfl⟩) hg
  | quiet v b p x=>rw[if_pos b];left;unfold Oper.wp;rw[x w ⟨⟨w,hg.below⟩,rfl⟩];exact xy c f _ _ _ _ (hK b4 v ⟨rfl,rfl⟩) hg
  | mC z b p u=>rw[if_pos b];left;refine AJ (u w hg.below fun j _=>hg.fact j) ?_;rintro v w' ⟨t,A,rfl,y⟩;exact xy c f _ _ _ _ (hK _ _ ⟨_,rfl,rfl⟩) (hg.add t p y)
def LW (P:cx) (ops:Array Oper) (md:cq) (an:kg) (W0:b1) (Q:iz->Act->Prop):List Oper->Nat->iz->Act->Prop
 | [],_,ξ,a=>Q ξ a
 | o::r,k,ξ,a=>mm P ops md an W0 k o ξ a (LW P ops md an W0 Q r (k+1))
def lr (listed:Array Bool):Nat->Nat->Array Bool
 | 0,_=>listed
 | f+1,k=>lr (listed.setIfInBounds k b5) f (k+1)
def rI (md:cq) (ops:Array Oper) (n:Nat):Nat->Nat->Array Bool->Bool
 | 0,_,listed=>(cm md ops listed).all fun j=>decide (n<=j)
 | f+1,k,listed=>(cm md ops listed).contains k&&Region.free md ops listed k&&rI md ops n f (k+1) (listed.setIfInBounds k b5)
def p4 (md:cq) (ops:Array Oper) (n:Nat):Bool:=dy ops&&xx md ops n&&rI md ops n n 0 (cR ops.size ch)
theorem Dr {n:Nat} {c:iz->Act->Prop} (s:dy ops=b5) (r:xx md ops n=b5) (done:Array Bool) (p:(cm md ops done).all (fun j=>decide (n<=j))=b5):
  ∀(l:List Oper) (k:Nat) (listed:Array Bool) (ξ:iz) (a:Act),(∀j,j<l.length->l[j]?=ops[k+j]?)->k+l.length=n->j2 md ops n listed->lr listed l.length k=done->
  rI md ops n l.length k listed=b5->LW P ops md an W0 c l k ξ a->AO P ops md an W0 n (fun t ξ' g=>t=done/\c ξ' g) l.length listed ξ a
 | [],k,listed,ξ,a,_,_,_,hd,_,h=>⟨hd,h⟩
 | o::l,k,listed,ξ,a,hl,hk,inv,hd,hB,h=>by
  have m:ops[k]?=b7 o:=by simpa using (hl 0 oC).symm
  simp only[j1,rI,cA] at hB;obtain⟨⟨B,z⟩,u⟩:=hB;have A:k<n:=by simp only[j1] at hk;omega
  have q:k∈cm md ops listed:=by simpa using B
  obtain⟨S,y,hK⟩:=h;refine I3 m (Region.noSelect_spec s) r A (fun t _ g x j b=>?_) l.length listed ξ a inv (Region.free_spec m z) q y fun ρ v hs'=>?_;rw[x.1] at b;exact of_decide_eq_true (cz.1 p j b);exact Dr s r done p l (k+1) _ _ _ (fun j b=>by have:=hl (j+1) oN;simpa[Nat.add_assoc,Nat.add_comm 1 j] using this) (by simp only[j1] at hk;omega) (inv.set q) (by simpa[lr] using hd) u (hK ρ v hs')
theorem xz {n:Nat}: ∀(f k:Nat) (listed:Array Bool),rI md ops n f k listed=b5->(cm md ops (lr listed f k)).all (fun j=>decide (n<=j))=b5
 | 0,_,_,h=>h
 | f+1,k,listed,h=>by simp only[rI,cA] at h;exact xz f (k+1) _ h.2
theorem I4 {id:Nat} {Q:Exit->Act->b1->Prop} {a:Act} {w:b1} {l:List Oper} (n:Nat) (an:kg) (u:P.follows .mixedOrders=b5) (A:n<=l.length) (m:p4 .any l.toArray n=b5)
  (h:LW P l.toArray .any an w (fun ξ a'=> ∀w',Good an w ξ w'->wpAny P .any l.toArray Q (l.length - n) (lr (cR l.length ch) n 0) a' w') (l.take n) 0 (fun _=>b4) a):(Code.region id l.toArray b5).wp P Q a w:=by
 simp only[p4,cA] at m;obtain⟨⟨y,x⟩,r⟩:=m;have b:(l.take n).length=n:=oN
 have z:j2 .any l.toArray n (cR l.toArray.size ch):=⟨oC,fun j B _ q=>(by rw[getD_replicate_false] at q;cases q)⟩;have s:=xz _ _ _ r;have c:=Dr (md:= .any) y x _ s (l.take n) 0 _ _ a (fun j p=>by
  have t:j<n:=by rw[b] at p;exact p
  simp[t]) (by simpa using b) z (by rw[b]) (by rw[b];exact r) h
 refine wp_region_any u ?_;simp only[List.size_toArray] at c;have:=xy (g:=l.length - n) (Q':=Q) (w:={ w with drawn:=w.drawn+1 }) (fun listed ξ a' w' hL hg=>?_) _ _ _ _ c (Good.start an ((cd _ w).drew));rw[b] at this;simpa[show n+(l.length - n)=l.length by omega] using this;rw[hL.1];simpa using hL.2 w' hg
theorem pS {id:Nat} {Q:Exit->Act->b1->Prop} {a:Act} {w:b1} {l:List Oper} (n g:Nat) (done:Array Bool) (an:kg) (m:P.follows .mixedOrders=b5) (p:l.length=n+g) (c:lr (cR l.length ch) n 0=done) (b:p4 .any l.toArray n=b5)
  (h:LW P l.toArray .any an w (fun ξ a'=> ∀w',Good an w ξ w'->wpAny P .any l.toArray Q g done a' w') (l.take n) 0 (fun _=>b4) a):(Code.region id l.toArray b5).wp P Q a w:=by
 refine I4 n an m oM b ?_;rw[c,show l.length - n=g by omega];exact h
theorem I5 {P:cx} {s:Sem ck} {w w':b1} {n:Next} (h:(do pure (Next.value (<-s)):Sem Next).run P w= .ok n w'): ∃u,n= .value u:=by
 rw[Sem.run_bind] at h;cases b:Sem.run P s w with
 | ok u w1=>rw[b] at h;simp[ct] at h;exact⟨u,h.1.symm⟩
 | halt c w1=>rw[b] at h;simp[ct] at h
theorem Ds {o:Oper} {ρ:Operand->ck} {w w':b1} {n:Next} (b:rh o.op=b5) (h:(c8 ρ o).run P w= .ok n w'): ∃u,n= .value u:=by
 unfold c8 at h;cases s:o.op<;>rw[s] at b h<;>first| (cases b;done)|exact I5 h|skip
 case move m=>simp at h;exact⟨_,h.1.symm⟩
 case assign m=>simp at h;exact⟨_,h.1.symm⟩
 case pick c a p=>
  dsimp only at h;rw[Sem.run_bind] at h;cases q:Sem.run P (asBool (ρ c)) w with
  | ok u w1=>rw[q] at h;simp[ct] at h;exact⟨_,h.1.symm⟩
  | halt m w1=>rw[q] at h;simp[ct] at h
 case call c=>
  unfold rh at b;dsimp only at h b;cases g:c.callee with
  | builtin p=>
   rw[g] at b;cases p<;>first| (cases b;done)|skip
   all_goals
    simp[resolve,g,invoke,builtin] at h;generalize Sem.run P _ w=r at h;cases r with
    | ok u w1=>simp[ct] at h;exact⟨_,h.1.symm⟩
    | halt m w1=>simp[ct] at h
  | value f=>rw[g] at b;cases b
  | invoke r t=>rw[g] at b;cases b
theorem Dt {W0:b1} {Q:iz->Act->Prop}: ∀(b rest:List Oper) (k:Nat) (ξ:iz) (a:Act),b.all (fun o=>rh o.op)=b5->(cC b.length).all (fun i=>(an (k+i)).isNone)=b5->
  dm P ops (ri W0) (fun a'=>LW P ops md an W0 Q rest (k+b.length) ξ a') b a->LW P ops md an W0 Q (b++rest) k ξ a
 | [],rest,k,ξ,a,_,_,h=>h
 | o::b,rest,k,ξ,a,hv,hn,h=>by
  simp only[List.all_cons,cA] at hv;have x:an k=none:=by have:=cz.1 hn 0 (cL.2 oC);simpa using this
  have u:(cC b.length).all (fun i=>(an (k+1+i)).isNone)=true:=cz.2 fun i t=>by have:=cz.1 hn (i+1) (cL.2 (by have:=cL.1 t;simp;omega));rwa[show k+(i+1)=k+1+i by omega] at this
  have next: ∀a',dm P ops (ri W0) (fun m=>LW P ops md an W0 Q rest (k+(b.length+1)) ξ m) b a'->LW P ops md an W0 Q (b++rest) (k+1) ξ a':=fun a' z=>
   Dt b rest (k+1) ξ a' hv.2 u (by rwa[show k+1+b.length=k+(b.length+1) by omega])
  unfold dm at h;show mm P ops md an W0 k o ξ a (LW P ops md an W0 Q (b++rest) (k+1))
  by_cases c:cw o (c9 ops a.tmps)=b5
  .
   rw[if_pos c] at h;obtain⟨v,p,q⟩:=h;refine⟨_, .quiet v c x fun w s=>?_,?_⟩;.
    have:=p w s;unfold Oper.quietAt at this;generalize y:(c8 a.eval o).run P w=r at this;cases r with
    | ok n w'=>obtain⟨g,rfl⟩:=Ds hv.1 y;obtain⟨rfl,rfl⟩:=this;rfl
    | halt A w'=>exact this.elim
   rintro ρ g ⟨rfl,rfl⟩;exact next _ q
  rw[if_neg c] at h;refine⟨_, .skip (by simpa using c),?_⟩;rintro ρ g ⟨rfl,rfl⟩;exact next _ h
theorem LW.block {W0:b1} {Q:iz->Act->Prop} {l:List Oper} {k:Nat} {ξ:iz} {a:Act} (m b:Nat) (g:k+(l.take m).length=b) (q:(l.take m).all (fun o=>rh o.op)=b5) (p:(cC (l.take m).length).all (fun i=>(an (k+i)).isNone)=b5)
  (h:dm P ops (fun w=> ∃y:jv W0,w=y.w) (fun c=>LW P ops md an W0 Q (l.drop m) b ξ c) (l.take m) a):LW P ops md an W0 Q l k ξ a:=by
 subst g;have:=Dt (l.take m) (l.drop m) k ξ a q p h;rwa[dq] at this
theorem LW.mC {W0:b1} {Q:iz->Act->Prop} {o:Oper} {rest:List Oper} {k:Nat} {ξ:iz} {a:Act} (b:mS) (q:cw o (c9 ops a.tmps)=b5) (c:an k=b7 b)
  (p: ∀y:jv W0,(∀j,mH md ops k j=b5->sL an ξ j y.w)->ix P o a y.w (pR b y.w)) (h: ∀r:Rec,LW P ops md an W0 Q rest (k+1) (nU ξ k (b7 r)) (a.put o.dst (b.f r))):LW P ops md an W0 Q (o::rest) k ξ a:=by
 refine⟨_, .mC b q c fun w g m=>p ⟨w,g⟩ m,?_⟩;rintro ρ s ⟨r,rfl,rfl⟩;exact h r
theorem LW.done {W0:b1} {Q:iz->Act->Prop} {k:Nat} {ξ:iz} {a:Act} (h:Q ξ a):LW P ops md an W0 Q [] k ξ a:=h
theorem LW.b {W0:b1}{Q:iz->Act->Prop}{l:List Oper}{k:Nat}{ξ:iz}{a:Act} (m k':Nat) (h:dm P ops (fun w=> ∃y:jv W0,w=y.w) (fun c=>LW P ops md an W0 Q (l.drop m) k' ξ c) (l.take m) a) (g:k+(l.take m).length=k':=by rfl) (q:(l.take m).all (fun o=>rh o.op)=true:=by kernel_rfl) (p:(cC (l.take m).length).all (fun i=>(an (k+i)).isNone)=true:=by kernel_rfl):LW P ops md an W0 Q l k ξ a:=
 LW.block m k' g q p h
theorem LW.z {W0:b1}{Q:iz->Act->Prop}{o:Oper}{rest:List Oper}{k:Nat}{ξ:iz}{a:Act}{A:mS}
 (c: ∀y:jv W0,(∀j,mH md ops k j=b5->sL an ξ j y.w)->ix P o a y.w (pR A y.w)) (h: ∀r:Rec,LW P ops md an W0 Q rest (k+1) (nU ξ k (b7 r)) (a.put o.dst (A.f r))) (g:cw o (c9 ops a.tmps)=true:=by rfl) (b:an k=b7 A:=by rfl):LW P ops md an W0 Q (o::rest) k ξ a:=
 LW.mC A g b c h
theorem sL.get {ξ:iz} {j:Nat} {w:b1} {b:mS} {r:Rec} (h:sL an ξ j w) (c:an j=b7 b) (g:ξ j=b7 r):b.Φ r w:=h b r c g w (cd _ _)
theorem Good.get {W0:b1} {ξ:iz} {w:b1} (h:Good an W0 ξ w) (j:Nat) {b:mS} {r:Rec} (c:an j=b7 b) (g:ξ j=b7 r):b.Φ r w:=(h.fact j).get c g
end
section
variable {P:cx} {ops:Array Oper} {rest:List Oper} {o:Oper} {a:Act} {Q:Exit->Act->b1->Prop} {w:b1}
end
section
variable {P:cx} {ops:Array Oper} {rest:List Oper} {o:Oper} {a:Act} {Q:Exit->Act->b1->Prop} {w:b1}
end
section
variable {P:cx} {ops:Array Oper} {rest:List Oper} {o:Oper} {a:Act} {Q:Exit->Act->b1->Prop} {w:b1}
end
def iw (v:ck):mS:=⟨fun _=>v,fun _ _=>True⟩
theorem qF (h:cn P f args W fun e w'=>e= ht v/\b3 W.heap.size W w'):cn P f args W fun e w'=> ∃u,e= ht u/\pR (iw v) W u w':=
 h.mono fun _ _ ⟨he,hw⟩=>⟨v,he,hw,fun _=>undef,rfl,fun _ _=>trivial⟩
section
variable {w w':b1} {gM:Nat} {e:TypeId} {v:ck} {n:Nat} {xs:List ck}
end
section
variable {P:cx}
end
section
variable {F:Fence} {nF:Nat} {P:cx} {ops:Array Oper} {rest:List Oper} {o:Oper} {a:Act} {Q:Exit->Act->b1->Prop} {w:b1}
end
section
variable {F:Fence} {nF:Nat} {P:cx} {ops:Array Oper} {rest:List Oper} {o:Oper} {a:Act} {Q:Exit->Act->b1->Prop} {w w':b1}
end
section
variable {P:cx} {o:Oper} {a:Act} {w:b1}
theorem I6 (g b e:TypeId) (t:P.underlying g=b7 (.slice e)) (r:P.underlying e=b7 (.int .u8)) (q:P.underlying b=b7 .string)
  (m:Addr) (n c:Nat) (l:List UInt8) (h:l.length=n) {S:Nat->Prop} (s:gO S w (b7 m) (lH l)):(convert g b (hA (b7 m) n c)).run P w= .ok (hE ⟨l.toArray⟩) w:=by
 cases l with
 | nil=>subst h;rw[run_convert_bytes_string w g b e _ _ _ t r q];simp[Conv.bytesToString];rfl
 | cons x l=>
  obtain⟨p,u,z,_⟩:=s 0 (by simp[lH]);obtain rfl:=b6 z;rw[run_convert_bytes_arg w g e t r p u n c ((x::l).map fun D=>(D.toNat:Int)) (by simpa using h) (fun i E=>?_) b q,CN];obtain⟨y,j8,A,B,_⟩:=s i (by simp[lH] at h |-; omega);obtain⟨rfl,rfl⟩:p=y/\u=j8:=by simpa using A
  have C:i<(x::l).length:=oM
  rw[B];simp only[lH,List.getElem_map];rw[dj,List.getElem?_map,di C];rfl
theorem Du (x:Operand) (h g e:TypeId) (r:o.op= .convert h g x) (t:P.underlying h=b7 (.slice e)) (p:P.underlying e=b7 (.int .u8)) (m:P.underlying g=b7 .string)
  (b:Addr) (n c:Nat) (l:List UInt8) (u:a.eval x= hA (b7 b) n c) (q:l.length=n) {S:Nat->Prop} (s:gO S w (b7 b) (lH l)):ix P o a w (pR (iw (hE ⟨l.toArray⟩)) w):=by
 unfold ix;simp[c8,r,u,I6 h g e t p m b n c l q s,ct];exact⟨cd _ _,fun _=>undef,rfl,fun _ _=>trivial⟩
end
theorem I7 (n k:Nat) (b:k<8):lH ((jh n).take (k+1))=lH ((jh n).take k)++[.int .u8 ((n:Int) / 2 ^ (56 - 8 * k) % 256)]:=by
 have e:((n:Int) / 2 ^ (56 - 8 * k) % 256)=((n / 2 ^ (56 - 8 * k) % 256:Nat):Int):=by rw[Int.natCast_emod,Int.natCast_ediv,Int.natCast_pow];rfl
 rw[e];rcases k with _|_|_|_|_|_|_|_|k;case succ=>omega
 all_goals simp[lH,jh]
abbrev Kv:=ByteArray×ByteArray
def iB (a b:ByteArray):Bool:=ca a.toList b.toList
inductive Nd where
 | mk (ps:List Kv) (gC:List Nd) (page:Int)
def Nd.ps:Nd->List Kv| .mk a _ _=>a
def Nd.gC:Nd->List Nd| .mk _ b _=>b
def Nd.page:Nd->Int| .mk _ _ c=>c
theorem Nd.ind {P:Nd->Prop} (h: ∀ps gC page,(∀k∈gC,P k)->P (.mk ps gC page)) (n:Nd):P n:=
 Nd.rec (motive_1:=P) (motive_2:=fun l=> ∀k∈l,P k) (fun ps gC page m=>h ps gC page m) (fun k b=>by cases b)
  (fun p l g c k b=>(j4.1 b).elim (fun e=>e▸g) (c k)) n
theorem Nd.eta (n:Nd):Nd.mk n.ps n.gC n.page=n:=by cases n;rfl
def Nd.ie:Nd->ByteArray
 | .mk ps [] _=>(ps.head?.map (·.1)).getD cb
 | .mk _ (k::_) _=>k.ie
mutual
def Nd.iv:Nd->List Kv
 | .mk ps [] _=>ps
 | .mk _ (k::ks) _=>k.iv++Nd.tO ks
def Nd.tO:List Nd->List Kv
 | []=>[]
 | k::ks=>k.iv++Nd.tO ks
end
theorem Nd.tP (l:List Nd):Nd.tO l=(l.map Nd.iv).flatten:=by
 induction l with
 | nil=>rfl
 | cons c l b=>rw[Nd.tO,b];rfl
theorem Nd.iJ {n:Nd} (h:n.gC=[]):n.iv=n.ps:=by
 cases n with|mk ps gC pg=>obtain rfl:gC=[]:=h;rw[Nd.iv];rfl
theorem Nd.iu {n:Nd} (h:n.gC≠[]):n.iv=(n.gC.map Nd.iv).flatten:=by
 cases n with|mk ps gC pg=>
  cases gC with
  | nil=>exact absurd rfl h
  | cons k b=>rw[Nd.iv,Nd.tP];rfl
def oy:List Nat->Nat
 | []=>1
 | d::r=>if r.any (· !=d) then 0 else if d=0 then 0 else d+1
mutual
def Nd.dep:Nd->Nat
 | .mk _ [] _=>1
 | .mk _ (k::ks) _=>oy (k.dep::Nd.tQ ks)
def Nd.tQ:List Nd->List Nat
 | []=>[]
 | k::ks=>k.dep::Nd.tQ ks
end
theorem Nd.tR (l:List Nd):Nd.tQ l=l.map Nd.dep:=by
 induction l with
 | nil=>rfl
 | cons c l b=>rw[Nd.tQ,b];rfl
theorem Nd.qi (n:Nd):n.dep=oy (n.gC.map Nd.dep):=by
 cases n with|mk ps gC pg=>
  cases gC with
  | nil=>rw[Nd.dep];rfl
  | cons k b=>rw[Nd.dep,Nd.tR];rfl
def Nd.size (n:Nd):Nat:=n.ps.length+n.gC.length
def Nd.iX (n:Nd):Bool:=if n.gC=[] then decide (n.ps.length<2) else decide (n.gC.length<4)
mutual
def Nd.kj:Nd->Bool
 | .mk _ ks _=>Nd.qj ks
def Nd.qj:List Nd->Bool
 | []=>ch
 | k::ks=>(k.iX||k.kj)||Nd.qj ks
end
theorem Nd.r5 (l:List Nd):Nd.qj l=l.any fun k=>k.iX||k.kj:=by
 induction l with
 | nil=>rfl
 | cons c l b=>rw[Nd.qj,b];rfl
theorem Nd.oz (n:Nd):n.kj=n.gC.any fun k=>k.iX||k.kj:=by
 cases n with|mk ps gC pg=>rw[Nd.kj,Nd.r5];rfl
def kX:List Kv->Bool
 | a::b::r=>iB a.1 b.1&&kX (b::r)
 | _=>b5
def vH (n:Nd):Bool:=kX n.iv&&decide (0<n.dep)&& !n.kj
def jH (s:ByteArray):List UInt8:=cT s.size::s.data.toList
def jg (l:List UInt8):List UInt8:=l++cy (512 - l.length) 0
def lQ (p:Int):List UInt8:=[cT (p / 256).toNat,cT p.toNat]
def j5 (ps:List Kv):List UInt8:=76::cT ps.length::(ps.map fun p=>jH p.1++jH p.2).flatten
def kd (gC:List Nd):List UInt8:=78::cT gC.length::((gC.map fun k=>lQ k.page).flatten++(gC.tail.map fun k=>jH k.ie).flatten)
def oY (n:Nd):List UInt8:=if n.gC=[] then j5 n.ps else kd n.gC
def iy (n:Nd):List UInt8:=jg (oY n)
def kH:List UInt8->Option (List UInt8×List UInt8)
 | []=>b4
 | c::r=>if r.length<c.toNat then b4 else b7 (r.take c.toNat,r.drop c.toNat)
def kI (s:List UInt8):Option (Kv×List UInt8):=
 match kH s with
 | none=>b4
 | some (k,r)=>
  match kH r with
  | none=>b4
  | some (v,r2)=>if 48<k.length\/80<v.length then b4 else b7 ((bs k,bs v),r2)
def jm:Nat->List UInt8->Option (List Kv)
 | 0,_=>b7 []
 | n+1,s=>
  match kI s with
  | none=>b4
  | some (x,r)=>(jm n r).map (x:: ·)
def mI (s:List UInt8) (i:Nat):Int:=((s.getD (2 * i) 0).toNat * 256+(s.getD (2 * i+1) 0).toNat:Nat)
def mg (s:List UInt8) (n:Nat):List Int:=(cC n).map (mI s)
def jL (g:Int->List Int->Option (Nd×List Int)):List Int->List Int->Option (List Nd×List Int)
 | [],u=>b7 ([],u)
 | p::r,u=>
  match g p u with
  | none=>b4
  | some (n,u1)=>(jL g r u1).map fun x=>(n::x.1,x.2)
def iH (d:ik) (gI gJ:Int):Nat->Int->List Int->Option (Nd×List Int)
 | 0,_,_=>b4
 | f+1,page,used=>
  if page<gI+2\/gJ<=page\/page∈used then b4
  else if (gQ d page).getD 0 0=76 then
   if ((gQ d page).getD 1 0).toNat<1\/3<((gQ d page).getD 1 0).toNat then b4
   else match jm ((gQ d page).getD 1 0).toNat ((gQ d page).drop 2) with
    | none=>b4
    | some ps=>if jg (j5 ps)=gQ d page then b7 (.mk ps [] page,used++[page]) else b4
  else if (gQ d page).getD 0 0≠78\/((gQ d page).getD 1 0).toNat<2\/8<((gQ d page).getD 1 0).toNat then b4
  else match jL (iH d gI gJ f) (mg ((gQ d page).drop 2) ((gQ d page).getD 1 0).toNat) (used++[page]) with
   | none=>b4
   | some (gC,u)=>if jg (kd gC)=gQ d page then b7 (.mk [] gC page,u) else b4
def jn (g:Int->List Int->Option (Nd×Nat×List Int)):List Int->Option Nat->List Int->Option (List Nd×Nat×List Int)
 | [],o,u=>b7 ([],o.getD 0,u)
 | p::r,o,u=>
  match g p u with
  | none=>b4
  | some (n,k,u1)=>if o≠b4/\o≠b7 k then b4 else (jn g r (b7 k) u1).map fun x=>(n::x.1,x.2)
def iR (d:ik) (gI gJ:Int):Nat->Bool->Int->List Int->Option (Nd×Nat×List Int)
 | 0,_,_,_=>b4
 | f+1,gN,page,used=>
  if page<gI+2\/gJ<=page\/page∈used then b4
  else if (gQ d page).getD 0 0=76 then
   if ((gQ d page).getD 1 0).toNat<1\/3<((gQ d page).getD 1 0).toNat\/(gN=ch/\((gQ d page).getD 1 0).toNat<2) then b4
   else match jm ((gQ d page).getD 1 0).toNat ((gQ d page).drop 2) with
    | none=>b4
    | some ps=>if jg (j5 ps)=gQ d page then b7 (.mk ps [] page,1,used++[page]) else b4
  else if (gQ d page).getD 0 0≠78\/((gQ d page).getD 1 0).toNat<2\/8<((gQ d page).getD 1 0).toNat\/(gN=ch/\((gQ d page).getD 1 0).toNat<4) then b4
  else match jn (iR d gI gJ f ch) (mg ((gQ d page).drop 2) ((gQ d page).getD 1 0).toNat) b4 (used++[page]) with
   | none=>b4
   | some (gC,k,u)=>if jg (kd gC)=gQ d page then b7 (.mk [] gC page,k+1,u) else b4
structure Ix where
 gL:ik
 gI:Int
 gJ:Int
 gZ:Int
 gN:Int
 free:List Int
def iY:Ix:=⟨jX,0,0,0,0,[]⟩
def jE (d:ik) (gI gJ:Int):Bool:=decide (d.size=512)&&decide (0<=gI)&&decide (gJ<=d.gG.length)&&decide (3<=gJ)&&decide (gI<=gJ - 3)
def iQ (d:ik) (gI gJ:Int):Int:=if iW d≠0 then 1 else if jE d gI gJ=ch then 2 else 0
def jV (s:List UInt8) (gI gJ:Int) (k:Nat):Option (Nat×Nat):=
 if 1<=be (s.take 8)/\be (s.take 8)<=1099511627776/\be ((s.drop 8).take 8)<=1099511627776/\(be ((s.drop 8).take 8)=0\/(gI+2<=(be ((s.drop 8).take 8):Int)/\(be ((s.drop 8).take 8):Int)<gJ))/\be (s.take 8) % 2=k/\s=jd 512 (be (s.take 8)) (be ((s.drop 8).take 8))
 then b7 (be (s.take 8),be ((s.drop 8).take 8)) else b4
def jY (d:ik) (gI gJ:Int):Nat×Nat:=mY (jV (gQ d gI) gI gJ 0) (jV (gQ d (gI+1)) gI gJ 1)
def pA (gI gJ:Int):List Int:=(cC (gJ - gI - 2).toNat).map fun i:Nat=>gI+2+(i:Int)
def mv (gI gJ:Int) (used:List Int):List Int:=(pA gI gJ).filter fun p=> !used.contains p
def kT (gI gJ:Int):Nat:=(gJ - gI).toNat
def l5 (d:ik) (gI gJ:Int) (r:Nat):Option (Option Nd×List Int):=
 if r=0 then b7 (b4,[])
 else match iH d gI gJ (kT gI gJ) r [] with
  | none=>b4
  | some (n,u)=>if vH n then b7 (b7 n,u) else b4
def kJ (d:ik) (gI gJ:Int):Option (Ix×Option Nd):=
 if (jY d gI gJ).1=0 then b4
 else match l5 d gI gJ (jY d gI gJ).2 with
  | none=>b4
  | some (t,u)=>b7 (⟨d,gI,gJ,(jY d gI gJ).1,(jY d gI gJ).2,mv gI gJ u⟩,t)
def jF (d:ik) (gI gJ:Int):Ix×Int:=
 if iQ d gI gJ≠0 then (iY,iQ d gI gJ)
 else match kJ d gI gJ with
  | none=>(iY,25)
  | some (x,_)=>(x,0)
def n4 (x:Ix):Option (Option Nd):=
 if iQ x.gL x.gI x.gJ≠0 then b4
 else match kJ x.gL x.gI x.gJ with
  | none=>b4
  | some (y,t)=>if y.gZ=x.gZ/\y.gN=x.gN/\y.free=x.free then b7 t else b4
def jz:Option Nd->List Kv
 | none=>[]
 | some n=>n.iv
def oZ (l:List Kv) (key:ByteArray):ByteArray×Int:=
 match l.find? fun p=>decide (p.1=key) with
 | none=>(cb,7)
 | some p=>(p.2,0)
def rj (x:Ix) (key:ByteArray):ByteArray×Int:=
 match n4 x with
 | none=>(cb,1)
 | some t=>oZ (jz t) key
def lg (l:List Kv) (low high:ByteArray):List Kv:=l.filter fun p=> !iB p.1 low&&(decide (high=cb)||iB p.1 high)
def ly (gC:List Nd) (key:ByteArray):Nat:=((gC.tail.takeWhile fun k=> !iB key k.ie).length)
def iN (l:List Kv) (x:Kv):List Kv:=l.takeWhile (fun p=>iB p.1 x.1)++x::(l.dropWhile fun p=>iB p.1 x.1).dropWhile fun p=>decide (p.1=x.1)
def l6 (l:List Kv) (key:ByteArray):List Kv:=l.filter fun p=>decide (p.1≠key)
def kR (ps:List Kv):Nd:= .mk ps [] 0
def kt (gC:List Nd):Nd:= .mk [] gC 0
def jA (n:Nd):Nd×Option Nd:=
 if n.gC=[] then (if 3<n.ps.length then (kR (n.ps.take 2),b7 (kR (n.ps.drop 2))) else (n,b4))
 else if 8<n.gC.length then (kt (n.gC.take 5),b7 (kt (n.gC.drop 5))) else (n,b4)
theorem Nd.nc {n k:Nd} (h:k∈n.gC):cX k<cX n:=by
 cases n with|mk ps gC pg=>
  have:=List.sizeOf_lt_of_mem (show k∈gC from h);simp;omega
def jB (x:Kv) (n:Nd):Nd×Option Nd:=
 if n.gC=[] then jA (kR (iN n.ps x))
 else match _hk:n.gC[ly n.gC x.1]? with
  | none=>(n,b4)
  | some c=>jA (kt (n.gC.take (ly n.gC x.1)++(jB x c).1::(jB x c).2.toList++n.gC.drop (ly n.gC x.1+1)))
termination_by cX n
decreasing_by all_goals exact Nd.nc (ds _hk)
def ku (o:Option Nd) (x:Kv):Nd:=
 match o with
 | none=>kR [x]
 | some n=>match jB x n with
  | (a,b4)=>a
  | (a,b7 b)=>kt [a,b]
def ig (a b:Nd):Nd:= .mk (a.ps++b.ps) (a.gC++b.gC) 0
def jo (n:Nd) (k:Nat):Nd×Nd:=if n.gC=[] then (kR (n.ps.take k),kR (n.ps.drop k)) else (kt (n.gC.take k),kt (n.gC.drop k))
def Nd.jO (n:Nd):Bool:=if n.gC=[] then decide (2<n.ps.length) else decide (4<n.gC.length)
def lu (a b:Nd) (left:Bool):List Nd:=
 if left then (if a.jO then [(jo (ig a b) (a.size - 1)).1,(jo (ig a b) (a.size - 1)).2] else [ig a b])
 else (if b.jO then [(jo (ig a b) (a.size+1)).1,(jo (ig a b) (a.size+1)).2] else [ig a b])
def kK (l:List Nd) (k:Nat):List Nd:=
 match l[k]? with
 | none=>l
 | some c=>if c.iX=ch then l
  else match l[k - 1]?,l[k - 1+1]? with
   | some a,b7 b=>l.take (k - 1)++lu a b (decide (0<k))++l.drop (k - 1+2)
   | _,_=>l
def ji (key:ByteArray) (n:Nd):Nd:=
 if n.gC=[] then kR (l6 n.ps key)
 else match _hk:n.gC[ly n.gC key]? with
  | none=>n
  | some c=>kt (kK (n.gC.set (ly n.gC key) (ji key c)) (ly n.gC key))
termination_by cX n
decreasing_by all_goals exact Nd.nc (ds _hk)
def jx (o:Option Nd) (key:ByteArray):Option Nd:=
 match o with
 | none=>b4
 | some n=>match (ji key n).gC with
  | [c]=>b7 c
  | _=>if (ji key n).size=0 then b4 else b7 (ji key n)
structure ju where
 key:ByteArray
 lz:Bool
 old:ByteArray
 kp:Bool
 new:ByteArray
def iZ (prev:Option ju) (c:ju):Int:=
 if 48<c.key.size\/80<c.old.size\/80<c.new.size then 4
 else if (match prev with|none=>ch|some p=> !iB p.key c.key)=b5 then 9
 else if (c.lz=ch/\c.kp=ch)\/(c.lz=ch/\c.old≠cb)\/(c.kp=ch/\c.new≠cb) then 1
 else 0
def iD:Option ju->List ju->Int
 | _,[]=>0
 | p,c::r=>if iZ p c≠0 then iZ p c else iD (b7 c) r
def rk (l:List Kv) (c:ju):Bool:=(decide ((oZ l c.key).2=0)!=c.lz)||decide ((oZ l c.key).1≠c.old)
def j6 (o:Option Nd) (c:ju):Option Nd:=if c.kp then b7 (ku o (c.key,c.new)) else jx o c.key
structure kq where
 free:List Int
 ws:List PW
mutual
def l7 (look:List UInt8->Option Int):Nd->kq->Option (Nd×kq)
 | .mk ps ks _,p=>
  match lB look ks p with
  | none=>b4
  | some (gC,q)=>
   match look (iy (.mk ps gC 0)) with
   | some g=>b7 (.mk ps gC g,q)
   | none=>match q.free with
    | []=>b4
    | g::r=>b7 (.mk ps gC g,⟨r,q.ws++[⟨g,bs (iy (.mk ps gC 0))⟩]⟩)
def lB (look:List UInt8->Option Int):List Nd->kq->Option (List Nd×kq)
 | [],p=>b7 ([],p)
 | k::ks,p=>
  match l7 look k p with
  | none=>b4
  | some (n,q)=>(lB look ks q).map fun x=>(n::x.1,x.2)
end
mutual
def Nd.je:Nd->List Nd
 | .mk ps ks g=>Nd.oA ks++[.mk ps ks g]
def Nd.oA:List Nd->List Nd
 | []=>[]
 | k::ks=>k.je++Nd.oA ks
end
def qG (o:Option Nd) (s:List UInt8):Option Int:=
 match o with
 | none=>b4
 | some n=>(n.je.find? fun k=>decide (iy k=s)).map Nd.page
def n5 (x:Ix) (ws:List PW) (gN:Int):List lJ:=
 (if ws=[] then [] else ws.map (fun w=>lJ.wr w.page w.data)++[.fl])++[.wr (x.gI+(x.gZ+1).tmod 2) (bs (jd 512 (x.gZ+1).toNat gN.toNat)), .fl]
def lR (x:Ix) (t:Option Nd) (l:List ju):Option (Option Nd×kq):=
 match l.foldl j6 t with
 | none=>b7 (b4,⟨x.free,[]⟩)
 | some n=>(l7 (qG t) n ⟨x.free,[]⟩).map fun y=>(b7 y.1,y.2)
def lh:Option Nd->List Int
 | none=>[]
 | some n=>n.je.map Nd.page
def iA:Option Nd->Int
 | none=>0
 | some n=>n.page
def kY (d:ik) (gI gJ:Int):ik×Int:=
 if iQ d gI gJ≠0 then (jX,iQ d gI gJ)
 else gR d [.wr gI (bs (jg [])), .wr (gI+1) (bs (jd 512 1 0)), .fl]
theorem uH: ∀l:List UInt8,ca l l=ch
 | []=>rfl
 | x::l=>by rw[ca];simp[uH l]
theorem yQ: ∀{a b c:List UInt8},ca a b=b5->ca b c=b5->ca a c=b5
 | _,[],_,h,_=>by simp[ca] at h
 | _,_::_,[],_,h=>by simp[ca] at h
 | [],_::_,_::_,_,_=>by simp[ca]
 | x::a,y::b,z::c,m,g=>by rw[ca] at m g |-;simp only[Bool.or_eq_true,decide_eq_true_eq,cA,beq_iff_eq] at m g |-;rcases m with m|⟨rfl,m⟩;rcases g with g|⟨rfl,g⟩;exact .inl (UInt8.lt_trans m g);exact .inl m;rcases g with g|⟨rfl,g⟩;exact .inl g;exact .inr ⟨rfl,yQ m g⟩
theorem Dv: ∀{a b:List UInt8},ca a b=ch->ca b a=ch->a=b
 | [],[],_,_=>rfl
 | [],_::_,h,_=>by simp[ca] at h
 | _::_,[],_,h=>by simp[ca] at h
 | x::a,y::b,c,g=>by rw[ca] at c g;simp only[Bool.or_eq_false_iff,decide_eq_false_iff_not,Bool.and_eq_false_iff] at c g;obtain⟨c,m⟩:=c;obtain⟨g,p⟩:=g;obtain rfl:x=y:=UInt8.le_antisymm (UInt8.not_lt.1 g) (UInt8.not_lt.1 c);simp at m p;rw[Dv m p]
theorem oB {a b:ByteArray} (h:a.toList=b.toList):a=b:=by
 have c:a.data.toList=b.data.toList:=by simpa[ByteArray.toList_eq] using h
 exact dv (Array.ext' c)
theorem tB (a:ByteArray):iB a a=false:=uH _
theorem r6 {a b c:ByteArray} (h:iB a b=b5) (k:iB b c=b5):iB a c=true:=yQ h k
theorem tC {a b:ByteArray} (h:iB a b=ch) (k:iB b a=ch):a=b:=oB (Dv h k)
theorem wN {a b:ByteArray} (h:iB a b=b5):iB b a=false:=by
 cases c:iB b a;rfl;have:=r6 h c;rw[tB] at this;cases this
theorem q9 {a b:ByteArray} (h:iB a b=b5):a≠b:=by rintro rfl;rw[tB] at h;cases h
theorem AK {a b c:ByteArray} (h:iB b a=ch) (k:iB b c=b5):iB a c=true:=by
 cases g:iB a b;obtain rfl:=tC g h;exact k;exact r6 g k
theorem Dw {a b c:ByteArray} (h:iB a b=b5) (k:iB c b=ch):iB a c=true:=by
 cases g:iB b c;obtain rfl:=tC g k;exact h;exact r6 h g
def jZ (l:List Kv):Prop:=l.Pairwise fun a b=>iB a.1 b.1=b5
theorem vI: ∀l:List Kv,kX l=b5↔jZ l
 | []=>by simp[kX,jZ]
 | [a]=>by simp[kX,jZ]
 | a::b::r=>by rw[kX,cA,vI (b::r)];constructor;rintro⟨c,g⟩;refine c6.2 ⟨fun x m=>?_,g⟩;rcases j4.1 m with rfl|m;exact c;exact r6 c ((c6.1 g).1 x m);intro h;obtain⟨c,g⟩:=c6.1 h;exact⟨c b oC,g⟩
theorem jZ.app {l m:List Kv}:jZ (l++m)↔jZ l/\jZ m/\ ∀a∈l,∀b∈m,iB a.1 b.1=true:=List.pairwise_append
theorem jZ.sub {l m:List Kv} (h:jZ m) (s:l.Sublist m):jZ l:=List.Pairwise.sublist s h
theorem Dx (n:Nat) (w:b1):
  cn b2 85 #[gE ha n] w fun e w'=>e= ht (hE (bs (jh n)))/\b3 w.heap.size w w':=by
 go_enter func85,ntmps85;go_wp2
 go_loopw [4,5] (fun _ i wr=> ∃k:Nat,k<=8/\i= gE ha k/\Bx wr w.heap.size (lH (qh n k)).toArray 195/\b3 w.heap.size w wr) (fun _ i _=>8 - (intOf i).toNat)
 case atStart=>exact⟨0,oM,rfl,Bx.new w _ _,Below.one _ _⟩
 case round=>
  obtain⟨k,p,rfl,b,c⟩:=hrel
  by_cases g:k<8
  .
   have m:=b.free (7 - k);have h:wr.cell? ⟨w.heap.size,7 - k,b4⟩=b7 (.int .u8 0):=by rw[b.cell,IZ n k g]
   go_wp2;go_roundw;case rel=>exact⟨k+1,oM,oQ,by rw[<-I0 n k g];exact b.set _ _,iT c (cj _)⟩
   case measure=>simp[intOf];omega
  obtain rfl:k=8:=oM
  go_wp2_with (refine wL rfl _ 139 9 5 rfl cv cH cG _ 8 8 (jh n) rfl rfl (S:=(· =w.heap.size)) (by rw[<-I1];simpa using gO.bx b) ?_);go_ret;exact⟨rfl,c⟩
theorem Dy (l:List UInt8) (c:UInt8):be (l++[c])=be l * 256+c.toNat:=by unfold be;rw[dz];rfl
theorem Dz: ∀(m l:List UInt8),be l<=be (l++m)
 | [],l=>oC
 | c::m,l=>by have h:=Dz m (l++[c]);rw[Dy,List.append_assoc] at h;simp at h;omega
theorem I8 (l:List UInt8) (k:Nat):be (l.take k)<=be l:=by
 have:=Dz (l.drop k) (l.take k);rwa[dq] at this
theorem DA (s:ByteArray) (w:b1) (D:s.size<=1000000):
  cn b2 130 #[hE s] w fun e w'=>e= ht (gE ha (mB (be s.data.toList)))/\w=w':=by
 have y:s.data.toList.length=s.size:=by rw[cB];rfl
 go_enter func130,ntmps130;go_wp2
 go_loop [3,4,7] (fun n _ i=> ∃(k b:Nat),k<=s.size/\i= gE ha k/\n= gE ha b/\b<=1099511627776/\Hid (be (s.data.toList.take k)=b)) (fun _ _ i=>s.size - (intOf i).toNat)
 case atStart=>exact⟨0,0,oM,rfl,rfl,oM,gF rfl⟩
 case round=>
  obtain⟨k,b,A,rfl,rfl,C,m⟩:=hrel
  by_cases B:k<s.size
  .
   obtain⟨q,h⟩: ∃q:Nat,b * 256+s[k].toNat=q:=⟨_,rfl⟩;have x:=AH b s[k] oM;rw[h] at x;have g:be (s.data.toList.take (k+1))=q:=by rw[cr oM,Dy,m.o, <-h];rfl
   have c:=I8 s.data.toList (k+1);rw[g] at c;have t:=gF g;have r:=gF c;clear g c h m y
   by_cases z:1099511627776<q
   .
    have u:(1099511627776:Int)<(q:Int):=oM
    go_wp2;go_ret;refine⟨?_,rfl⟩;have:=r.o;unfold mB;rw[if_pos oM];rfl
   have u: ¬(1099511627776:Int)<(q:Int):=oM
   go_wp2;go_roundw;case rel=>exact⟨k+1,q,oM,oQ,rfl,oM,t⟩
   case measure=>simp[intOf];omega
  obtain rfl:k=s.size:=oM
  go_wp2;go_ret;refine⟨?_,rfl⟩;have p:=m.o;rw[cQ oM] at p;unfold mB;rw[p,if_neg oM];rfl
theorem len8 (n:Nat):(jh n).length=8:=rfl
theorem yR (v r:Nat) (w:b1):
  cn b2 47 #[gE ha v, gE ha r] w fun e w'=>e= ht (hE (bs (jd 512 v r)))/\b3 w.heap.size w w':=by
 have p:(rF 488).size=488:=by simp[rF,cI]
 have m:(jh v).length=8:=rfl;have h:(jh r).length=8:=rfl;go_enter func47,ntmps47;go_wp2_with fail;refine(Dx v _).mono ?_;rintro e w1 ⟨rfl,b⟩;go_wp2_with fail;refine(Dx r _).mono ?_;rintro e w2 ⟨rfl,c⟩;go_wp2_with fail;refine(yJ 488 oM _).mono ?_;rintro e q ⟨rfl,g⟩;go_wp2;go_ret;refine⟨?_,iq (iq b c) g⟩;show cN (hE (bs (jh v)++bs (jh r)++bs (cy 488 0)++bs (jh v)))=_;rw[q8,q8,q8];rfl
theorem DB {S:Nat->Prop} (l:List UInt8) (p:Addr) (c:Nat) (w:b1) (A:l.length<=512) (u:gO S w (b7 p) (lH l)):
  cn b2 46 #[hA (b7 p) l.length c] w fun e w'=>e= ht (hE (bs (jg l)))/\b3 w.heap.size w w':=by
 obtain⟨n,g⟩:=nM l.length;rw[g];have y:(512:Int) - (n:Int)=((512 - n:Nat):Int):=oM
 have t:512 - n<=1000000:=oM
 have x:(rF (512 - n)).size=512 - n:=by simp[rF,cI]
 have s:(bs l).size=n:=by rw[lM,g]
 have B: ¬(9223372036854775807:Int)<((bs l).size+(rF (512 - n)).size:Nat):=by rw[s,x];omega
 have m:=gF g;clear g;go_enter func46,ntmps46;go_wp2_with fail;refine pS 8 0 #[b5,b5,b5,b5,b5,b5,b5,b5] (fun i=>if i=1 then b7 (iw (hE (bs l))) else if i=5 then b7 (iw (hE (rF (512 - n)))) else b4) oP oO oO oP ?_;simp only[cY,de];refine LW.b 1 1 ?_;simp only[jC];repeat (go_big_quiet_step (fail))
 refine cu ?_;refine LW.z ?_ ?_;intro q _;exact Du (.tmp 3) 139 9 5 rfl cv cH cG _ n _ l rfl m.o (S:=S) (u.below q.h);intro C;simp only[cZ,gU]
 (try simp only[iw])
 refine LW.b 3 5 ?_;simp only[jC];repeat (go_big_quiet_step (fail))
 refine cu ?_;refine LW.z ?_ ?_;. intro q _;unfold ix;go_simp;exact qF (yJ (512 - n) t _)
 intro _;simp only[cZ,gU]
 (try simp only[iw])
 refine LW.b 2 8 ?_;simp only[jC];repeat (go_big_quiet_step (fail))
 refine cu ?_;refine LW.done ?_;intro w' r;refine kS ?_;go_wp2;go_ret;refine⟨?_,r.below⟩;show cN (hE (bs l++bs (cy (512 - n) 0)))=_;rw[q8, <-m.o];rfl
section
variable {P:cx} {o:Oper} {a:Act} {w:b1}
theorem I9 (x:Operand) (g b e:TypeId) (p:o.op= .convert g b x) (q:P.underlying g=b7 (.slice e)) (m:P.underlying e=b7 (.int .u8)) (h:P.underlying b=b7 .string)
  (n c:Nat) (r:a.eval x= hA b4 n c):ix P o a w (pR (iw (hE (bs []))) w):=by
 unfold ix;simp[c8,p,r,run_convert_bytes_nil w g e q m _ _ b h,ct];exact⟨cd _ _,fun _=>undef,rfl,fun _ _=>trivial⟩
end
theorem Ja (w:b1):
  cn b2 46 #[hA b4 0 0] w fun e w'=>e= ht (hE (bs (jg [])))/\b3 w.heap.size w w':=by
 have h:(rF 512).size=512:=by simp[rF,cI]
 go_enter func46,ntmps46;go_wp2_with fail;refine pS 8 0 #[b5,b5,b5,b5,b5,b5,b5,b5] (fun i=>if i=1 then b7 (iw (hE (bs []))) else if i=5 then b7 (iw (hE (rF 512))) else b4) oP oO oO oP ?_;simp only[cY,de];refine LW.b 1 1 ?_;simp only[jC];repeat (go_big_quiet_step (fail))
 refine cu ?_;refine LW.z ?_ ?_;intro g _;exact I9 (.tmp 3) 139 9 5 rfl cv cH cG 0 0 rfl;intro m;simp only[cZ,gU]
 (try simp only[iw])
 refine LW.b 3 5 ?_;simp only[jC];repeat (go_big_quiet_step (fail))
 refine cu ?_;refine LW.z ?_ ?_;. intro g _;unfold ix;go_simp;exact qF (yJ 512 oM _)
 intro _;simp only[cZ,gU]
 (try simp only[iw])
 refine LW.b 2 8 ?_;simp only[jC];repeat (go_big_quiet_step (fail))
 refine cu ?_;refine LW.done ?_;intro w' c;refine kS ?_;go_wp2;go_ret;refine⟨?_,c.below⟩;show cN (hE (bs []++bs (cy 512 0)))=_;rw[q8];rfl
theorem Jb (n k:Nat) (g:k<8): ∃c:UInt8,(jh n).take (k+1)=(jh n).take k++[c]/\((n:Int) / 2 ^ (56 - 8 * k) % 256)=(c.toNat:Int):=by
 have b:=I7 n k g;have h:k<(jh n).length:=by rw[len8];exact g
 refine⟨(jh n)[k],cr h,?_⟩;rw[cr h] at b;simp only[lH,List.map_append,List.map_cons,List.map_nil] at b;have:=List.append_cancel_left b;simpa using this.symm
theorem AL (n:Nat) (w:b1):
  cn b2 89 #[gE ha n] w fun e w'=>e= ht (hE (bs (jh n)))/\b3 w.heap.size w w':=by
 go_enter func89,ntmps89;go_wp2
 go_loopw [3,4] (fun v i wr=> ∃(k:Nat) (b:Int),k<=8/\i= gE ha b/\ -8<=b/\b<=56/\Hid (b=56 - 8 * k)/\v= hE (bs ((jh n).take k))/\b3 w.heap.size w wr) (fun _ i _=>(intOf i+8).toNat)
 case atStart=>exact⟨0,56,oM,rfl,oM,oM,gF rfl,rfl,cd _ _⟩
 case round=>
  obtain⟨k,b,z,rfl,B,C,p,rfl,g⟩:=hrel
  by_cases t:k<8
  .
   have u:=g.size;obtain rfl:b=((56 - 8 * k:Nat):Int):=by rw[p.o];omega
   obtain⟨h,m,s⟩:=Jb n k t;have q:=gF m;obtain⟨x,c⟩:=nM (bs ((jh n).take k));have A:x.size=k:=by rw[<-c,lM,List.length_take,len8];omega
   rw[c];have r:=gF c;have y:cI { data:=#[h] }=1:=rfl;clear c m;go_wp2_with (refine wL rfl _ 139 9 5 rfl cv cH cG (b7 ⟨wr.heap.size,0,b4⟩) 1 1 [h] rfl rfl (S:=(· =wr.heap.size)) (by first|exact gO.bx (Bx.new wr _ _)| (rw[s];exact gO.bx (Bx.new wr _ _))) ?_);go_roundw;case rel=>
    refine⟨k+1,_,oM,rfl,oM,oM,gF oM,?_,g.alloc u _⟩;rw[q.o, <-q8,r.o]
   case measure=>simp[intOf];omega
  obtain rfl:k=8:=oM
  obtain rfl:b= -8:=by rw[p.o];rfl
  go_wp2;go_ret;exact⟨rfl,g⟩
theorem DC (s:ByteArray) (w:b1) (z:8<=s.size):
  cn b2 93 #[hE s] w fun e w'=>e= ht (gE ha (mB (be (s.data.toList.take 8))))/\w=w':=by
 go_enter func93,ntmps93;go_wp2
 go_loop [3,4] (fun n i=> ∃(k b:Nat) (c:Int),k<=8/\i= gE ha k/\n= gE ha c/\ -9223372036854775808<=c/\c<=9223372036854775807/\Hid (c=cF b/\b<256 ^ k/\be (s.data.toList.take k)=b)) (fun _ i=>8 - (intOf i).toNat)
 case atStart=>exact⟨0,0,0,oM,rfl,rfl,oM,oM,gF ⟨by unfold cF;omega,oM,rfl⟩⟩
 case round=>
  obtain⟨k,b,c,u,rfl,rfl,A,B,g⟩:=hrel
  by_cases x:k<8
  .
   have m:b<72057594037927936:=by have p:=g.o.2.1;have:256 ^ k<=256 ^ 7:=Nat.pow_le_pow_right oM oM;omega
   obtain rfl:c=(b:Int):=by rw[g.o.1,c4 _ oM]
   go_wp2;go_roundw;case rel=>
    have h:=s[k].toNat_lt;have y:=g.o.2.1;refine⟨k+1,b * 256+s[k].toNat,_,oM,oQ,rfl,?_,?_,gF ⟨?_,?_,?_⟩⟩;rw[xv b _ m h];exact(Dn _).1;rw[xv b _ m h];exact(Dn _).2;rw[xv b _ m h];simp;rw[Nat.pow_succ];omega;have r:k<s.data.toList.length:=by rw[cB];exact(show k<s.size by omega)
    rw[cr r];unfold be;rw[dz];have:=g.o.2.2;unfold be at this;rw[this];rfl
   case measure=>simp[intOf];omega
  obtain rfl:k=8:=oM
  go_wp2;all_goals go_ret;refine⟨?_,rfl⟩;obtain⟨p,t,q⟩:=g.o;rw[q];simp only[mB];show cN (gE ha _)=_;congr 2;unfold cF at p;split<;>omega
theorem yS (s:ByteArray) (w:b1) (z:s.size<=512):
  cn b2 51 #[hE s] w fun e w'=>e= ht (hE (bs (jg s.data.toList)))/\b3 w.heap.size w w':=by
 obtain⟨t,h,p,q,r⟩:=info_parts Ax;obtain⟨n,b⟩:=nM (512 - s.size);have x:(512:Int) - (s.size:Int)=(n:Int):=oM
 have B:(ByteArray.mk (cy n 0).toArray).size=n:=by simp[cI]
 have c:=gF b;have y:s.size+n<=512:=oM
 clear b;go_enter func51,ntmps51;go_wp2_with (first
  | (refine CQ rfl (.tmp 6) (.tmp 6) 139 rfl 5 t _ 1 cv h p q r rfl n rfl rfl oM oM ?_;intro w2 u g A)
  | (refine wL rfl _ 139 9 5 rfl cv cH cG (b7 ⟨w.heap.size,0,b4⟩) n n (cy n 0) rfl oC (S:=(· =w.heap.size)) (by have:=gO.bx u;simpa[lH] using this) ?_))
 go_ret;refine⟨?_,(cd _ _).grown g (cj _) (by intro k e;cases e)⟩;have m:s.data.toList.length=s.size:=by rw[cB];rfl
 unfold jg;rw[m,c.o, <-q8,pz];simp[bs]
theorem Jc (v r:Nat):(jg (jh v++jh r)).take 504++jh v=jd 512 v r:=by
 unfold jg jd;have:(jh v++jh r).length=16:=rfl;rw[this,List.take_append,this,cQ (by rw[this];omega),List.take_replicate];simp
theorem yT (v r:Nat) (w:b1):
  cn b2 52 #[gE ha v, gE ha r] w fun e w'=>e= ht (hE (bs (jd 512 v r)))/\b3 w.heap.size w w':=by
 have C:(jh v).length=8:=rfl;have B:(jh r).length=8:=rfl;obtain⟨c,g⟩:=nM (jg (jh v++jh r));have s:c.length=512:=by rw[<-g];rfl
 have q: ∀W,cn b2 51 #[hE (bs (jh v)++bs (jh r))] W fun e w'=>e= ht (hE (bs c))/\b3 W.heap.size W w':=fun W=>by have:=yS (bs (jh v)++bs (jh r)) W (by rw[q8,lM];simp[len8]);rw[q8,q7,g] at this;rwa[q8]
 have x:(bs c).size=512:=by rw[lM,s]
 have p:(bs c).extract 0 504=bs (c.take 504):=by rw[vF];simp
 have D:(bs (c.take 504)).size=504:=by rw[lM,List.length_take,s];rfl
 have t:=gF g;clear g;obtain⟨y,h⟩:=nM (bs c);rw[h] at q x p;have A:=gF h;clear h;go_enter func52,ntmps52;go_wp2_with fail;refine pS 11 0 #[b5,b5,b5,b5,b5,b5,b5,b5,b5,b5,b5] (fun i=>if i=1\/i=8 then b7 (iw (hE (bs (jh v)))) else if i=3 then b7 (iw (hE (bs (jh r)))) else if i=5 then b7 (iw (hE y)) else b4) oP oO oO oP ?_;simp only[cY,de];refine LW.b 1 1 ?_;simp only[jC];repeat (go_big_quiet_step (fail))
 refine cu ?_;refine LW.z ?_ ?_;. intro m _;unfold ix;go_simp;exact qF (AL v _)
 intro _;simp only[cZ,gU]
 (try simp only[iw])
 refine LW.b 1 3 ?_;simp only[jC];repeat (go_big_quiet_step (fail))
 refine cu ?_;refine LW.z ?_ ?_;. intro m _;unfold ix;go_simp;exact qF (AL r _)
 intro _;simp only[cZ,gU]
 (try simp only[iw])
 refine LW.b 1 5 ?_;simp only[jC];repeat (go_big_quiet_step (fail))
 refine cu ?_;refine LW.z ?_ ?_;. intro m _;unfold ix;go_simp;exact qF (q _)
 intro _;simp only[cZ,gU]
 (try simp only[iw])
 refine LW.b 2 8 ?_;simp only[jC];repeat (go_big_quiet_step (fail))
 refine cu ?_;refine LW.z ?_ ?_;. intro m _;unfold ix;go_simp;exact qF (AL v _)
 intro _;simp only[cZ,gU]
 (try simp only[iw])
 refine LW.b 2 11 ?_;simp only[jC];repeat (go_big_quiet_step (fail))
 refine cu ?_;refine LW.done ?_;intro w' u;refine kS ?_;go_wp2;go_ret;refine⟨?_,u.below⟩;rw[<-Jc,t.o, <-q8];first|rfl| (rw[<-p];rfl)
def iF (w:b1) (v:ck) (d:ik):Prop:=ja (· <w.heap.size) w v d
theorem iF.of {S:Nat->Prop} {w:b1} {v:ck} {d:ik} (h:ja S w v d) (b:nR S w):iF w v d:=h.mono b
theorem iF.below {w w':b1} {v:ck} {d:ik} (h:iF w v d) (b:b3 w.heap.size w w'):iF w' v d:=
 ja.mono (ja.below h b) fun _ c=>iU c b.size
theorem vJ (w:b1):nR (· <w.heap.size) w:=fun _ b=>b
theorem vK {w w':b1} (b:b3 w.heap.size w w'):nR (Gr (· <w.heap.size) w w') w':=(vJ w).gr b
theorem iF.agg {w:b1} {v:ck} {d:ik} (h:iF w v d): ∃po pc c b,v= hF #[gE ha d.size, hA po d.gG.length pc, hA c d.gH.length b, gE ha d.left]:=by
 obtain⟨po,pc,c,b,e,_⟩:=h;exact⟨po,pc,c,b,e⟩
def DD (d:ik) (po co:Option Addr) (pc cc:Nat):Array ck:=#[gE ha d.size, hA po d.gG.length pc, hA co d.gH.length cc, gE ha d.left]
theorem Jd (d:ik) (v:ck) (i:Int) (data:ByteArray) (w:b1) (h:iF w v d) (m:data.size<=140737488351232) (q:d.gH.length<=1000000) {b:ik} {er:Int} (p:mR d i data=(b,er)):
  cn b2 83 #[v, gE ha i, hE data] w fun e w'=> ∃v',e= ht (hG #[v', gE ha er])/\iF w' v' b/\b3 w.heap.size w w':=by
 refine(HJ d v i data w (vJ w) h m q).mono ?_;rintro e w' ⟨v',rfl,c,g⟩;rw[p] at c |-;exact⟨v',rfl, .of c (vK g),g⟩
theorem Je (d:ik) (v:ck) (w:b1) (h:iF w v d) {b:ik} {er:Int} (m:ow d=(b,er)):
  cn b2 84 #[v] w fun e w'=> ∃v',e= ht (hG #[v', gE ha er])/\iF w' v' b/\b3 w.heap.size w w':=by
 refine(Iq d v w (vJ w) h).mono ?_;rintro e w' ⟨v',rfl,c,g⟩;rw[m] at c |-;exact⟨v',rfl, .of c (vK g),g⟩
theorem Jf (d:ik) (v:ck) (gP:List Int) (b:Option Addr) (m:Nat) (w:b1) {T:Nat->Prop} (p:iF w v d) (s:lp T w b gP) (t:gP.length<=1000000) (r:d.gH.length<=1000000) {c:ik} (q:ma d gP=c):
  cn b2 33 #[v, hA b gP.length m] w fun e w'=> ∃v',e= ht v'/\iF w' v' c/\b3 w.heap.size w w':=by
 refine(Ig d v gP b m w (vJ w) p s t r).mono ?_;rintro e w' ⟨v',rfl,g,h⟩;rw[q] at g;exact⟨v',rfl, .of g (vK h),h⟩
theorem AP (d:ik) (v:ck) (i:Int) (w:b1) (b:iF w v d) {s:ByteArray} {er:Int} (g:lO d i=(s,er)):
  cn b2 41 #[v, gE ha i] w fun e w'=>e= ht (hG #[hE s, gE ha er])/\b3 w.heap.size w w':=by
 refine(Ic d v i w (vJ w) b).mono ?_;rintro e w' ⟨rfl,c⟩;rw[g];exact⟨rfl,c⟩
theorem AQ (d:ik) (v:ck) (w:b1) (b:iF w v d) {er:Int} (c:iW d=er):
  cn b2 43 #[v] w fun e w'=>e= ht (gE ha er)/\b3 w.heap.size w w':=c▸su d v w b
theorem DF (d:ik) (v:ck) (w:b1) (b:iF w v d) {er:Int} (c:iW d=er):
  cn b2 48 #[v] w fun e w'=>e= ht (gE ha er)/\b3 w.heap.size w w':=c▸rD d v w b
theorem DG (d:ik) (b c:ck) (w:b1) (g:iF w b d) (h:iF w c d):
  cn b2 18 #[b,c] w fun e w'=>e= ht (.bool b5)/\b3 w.heap.size w w':=IY d b c w g h
theorem Jg {s:List UInt8} {k:Nat} {b:Int} {v n:Nat} (h:sH s k b=b7 (v,n)):
  be (s.take 8)=v/\be ((s.drop 8).take 8)=n/\1<=v/\v<=1099511627776/\v % 2=k/\(n:Int)<=b/\n<=1099511627776/\s=jd s.length v n:=by
 unfold sH at h;split at h;rename_i t;obtain⟨c,g,m,p,q,r⟩:=t;simp only[Option.some.injEq,Prod.mk.injEq] at h;obtain⟨rfl,rfl⟩:=h;exact⟨rfl,rfl,c,g,m,p,q,r⟩;cases h
theorem wO (s:ByteArray):s.data.toList.length=s.size:=by rw[cB];rfl
theorem Jh {d:ik} (h:iW d=0) {k:Nat} (g:k<d.gG.length):((nv d k g).size:Int)=d.size:=by
 obtain⟨_,b,c,_⟩:=nY h;exact Df (fun p m=>(c p m).2.2) _ (b _ (cM _))
theorem Ji {d:ik} (h:iW d=0) {i:Int} (c:0<=i) (g:i<d.gG.length):(gQ d i).length=d.size.toNat:=by
 have b:i.toNat<d.gG.length:=oM
 have e:(i.toNat:Int)=i:=oM
 unfold gQ;rw[<-e,AG h b];have:=Jh h b;rw[cB];show(nv d i.toNat b).size=_;omega
theorem yU {n:Nat} (h:n<=1099511627776):mB n=n:=by unfold mB;rw[if_neg oM]
theorem wP (s:ByteArray) (a b:Nat):(s.extract a b).data.toList=(s.data.toList.drop a).take (b - a):=by
 conv=>lhs;rw[<-pz s,vF,q7]
theorem ra {d:ik} {gI gJ:Int} (h:jE d gI gJ=b5):d.size=512/\0<=gI/\gJ<=(d.gG.length:Int)/\3<=gJ/\gI<=gJ - 3:=by
 unfold jE at h;simp at h;omega
theorem DI {d:ik} {gI gJ:Int} (h: ¬(d.size=512/\0<=gI/\gJ<=(d.gG.length:Int)/\3<=gJ/\gI<=gJ - 3)):jE d gI gJ=false:=by
 cases b:jE d gI gJ;rfl;exact absurd (ra b) h
theorem AR {d:ik} {gI gJ:Int} (b:d.size=512) (c:0<=gI) (g:gJ<=(d.gG.length:Int)) (h:3<=gJ) (m:gI<=gJ - 3):jE d gI gJ=true:=by
 unfold jE;simp;omega
theorem wQ (d:ik) (v:ck) (gI gJ:Int) (w:b1) (y:iW d=0) {b:Bool} (C:jE d gI gJ=b) (x:iF w v d):
  cn b2 44 #[v, gE ha gI, gE ha gJ] w fun e w'=>e= ht (.bool b)/\b3 w.heap.size w w':=by
 subst C;obtain⟨E,D,B,A,rfl⟩:=x.agg;have I:=pd (nY y).1;have G:=Bx.new w #[gE ha d.size, hA E d.gG.length D, hA B d.gH.length A, gE ha d.left] 25;obtain⟨H,J⟩:=G.c2;clear x y;cases g:(d.size==512);focus have c:d.size≠512:=by simpa using g
 rotate_left;have c:d.size=512:=by simpa using g
 have z:=gF c;clear c;cases h:decide (0<=gI);focus have m:=of_decide_eq_false h
 rotate_left;have m:=of_decide_eq_true h;cases p:decide (gJ<=(d.gG.length:Int));focus have q:=of_decide_eq_false p
 rotate_left;have q:=of_decide_eq_true p;cases r:decide (3<=gJ);focus have s:=of_decide_eq_false r
 rotate_left;have s:=of_decide_eq_true r;cases t:decide (gI<=gJ - 3);focus have u:=of_decide_eq_false t
 rotate_left;have u:=of_decide_eq_true t;focus go_enter func44,ntmps44;go_wp2;go_ret;refine⟨?_,Below.one _ _⟩;rw[AR z.o m q s u];rfl
 all_goals go_enter func44,ntmps44;go_wp2;go_ret;refine⟨?_,Below.one _ _⟩;rw[DI oM];rfl
theorem yV (d:ik) (v:ck) (gI gJ:Int) (w:b1) (y:iW d=0) {b:Bool} (C:jE d gI gJ=b) (x:iF w v d):
  cn b2 49 #[v, gE ha gI, gE ha gJ] w fun e w'=>e= ht (.bool b)/\b3 w.heap.size w w':=by
 subst C;obtain⟨E,D,B,A,rfl⟩:=x.agg;have I:=pd (nY y).1;have G:=Bx.new w #[gE ha d.size, hA E d.gG.length D, hA B d.gH.length A, gE ha d.left] 25;obtain⟨H,J⟩:=G.c2;clear x y;cases g:(d.size==512);focus have c:d.size≠512:=by simpa using g
 rotate_left;have c:d.size=512:=by simpa using g
 have z:=gF c;clear c;cases h:decide (0<=gI);focus have m:=of_decide_eq_false h
 rotate_left;have m:=of_decide_eq_true h;cases p:decide (gJ<=(d.gG.length:Int));focus have q:=of_decide_eq_false p
 rotate_left;have q:=of_decide_eq_true p;cases r:decide (3<=gJ);focus have s:=of_decide_eq_false r
 rotate_left;have s:=of_decide_eq_true r;cases t:decide (gI<=gJ - 3);focus have u:=of_decide_eq_false t
 rotate_left;have u:=of_decide_eq_true t;focus go_enter func49,ntmps49;go_wp2;go_ret;refine⟨?_,Below.one _ _⟩;rw[AR z.o m q s u];rfl
 all_goals go_enter func49,ntmps49;go_wp2;go_ret;refine⟨?_,Below.one _ _⟩;rw[DI oM];rfl
end Go.Proofs.YtlefmmhlpgmbjaaGreat
