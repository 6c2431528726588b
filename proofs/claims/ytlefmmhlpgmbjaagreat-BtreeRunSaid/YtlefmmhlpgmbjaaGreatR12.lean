import Derived.Test.YtlefmmhlpgmbjaaGreatR11
open Option renaming none->dE,some->dF
open Go.RowKit.Below renaming heap_setCell->dG,refl->et
open Go renaming World->dH,Value->dL,wpQuiet_nil->dS,TypeId->dU,maxLen->dV,bodyPost_ret->ek,getD_both->en,Program->eu,getD_set_true->ev,Calls->ez,mem_ready->eA,yielded->eF,TypeInfo->eG,undef->eL,results->eP,Operand->eQ,execOp->eS
open Bool renaming true->dI,false->dO,false_eq_true->ei,and_eq_true->ep,or_eq_false_iff->eU
open List renaming length_take->dJ,length_drop->dQ,all_eq_true->dR,length_nil->ee,take_succ_cons->ef,take_zero->eg,mem_range->eh,take_append_of_le_length->eB,eq_nil_of_length_eq_zero->eC,drop_append_of_le_length->eD,take_length_add_append->eH,drop_length_add_append->eI,getElem_append_right->eK,getElem_append_left->eO,append_eq_nil_iff->eR,take_append_drop->eT,flatten_append->eV,range->eW,getElem_take->eY
open Go.Value renaming slice->dK,ownBlock->ey
open Go.Region renaming Mode->dM,ready->dT,wanted->dX,binds->eM
open Go.RowKit renaming Below->dN
open Go.Proofs.Tryz renaming prog->dP,underlying93->dW,results112->eE,underlying41->eX
open Go.Act renaming put->dY
open Go.Builtin renaming append->ea
open Go.Callee renaming builtin->eb
open Nat renaming zero_add->ec,le_refl->eo
open Array renaming replicate->ed,getElem?_eq_some_iff->eJ
open Option.some renaming inj->ej,injEq->eN
open Go.Value.slice renaming injEq->ew
open Go.Proofs.Tryz
set_option maxRecDepth 100000
set_option maxHeartbeats 4000000
open Go.Value renaming int->gE,slice->ht,string->hA,agg->hE
open Go.IntKind renaming i64->ha
open Go.Obj renaming cells->hF
namespace Go.Proofs.YtlefmmhlpgmbjaaGreat
open Go.RowKit
variable {S T:Nat->Prop}{w W8 W w':dH}{o oo fo wo:Option Addr}{c1 c2:List dL}{a b h j N c a' b' a1 a2 b0 k oc fc wc:Nat}{n x y:Nd}{z0 z1 z2 v0 v1 v2 v:dL}{cs args:Array dL}{t:dU}{f:FuncId}{l m old KS:List Nd}{s:List UInt8}{look:List UInt8->Option Int}{p q:kq}
def lY (x:Kv) (n:Nd):List Nd:=(jB x n).1::(jB x n).2.toList
theorem Gh (x:Kv) (n:Nd):1<=(lY x n).length/\(lY x n).length<=2:=by
 unfold lY;cases (jB x n).2<;>simp
theorem wE {a b:Nd} (r:gO S w o (c1++c2)) (d:jf S w c1 a) (e:jf S w c2 b):jw S w o [a,b]:=
 ⟨[c1,c2],rfl,by simpa using r,fun i g u=>by
  match i,g with
  | 0,_=>exact d
  | 1,_=>exact e⟩
theorem s5 {a:Nd} (g:gO S w o c1) (d:jf S w c1 a):jw S w o [a]:=
 ⟨[c1],rfl,by simpa using g,fun i e r=>by
  match i,e with
  | 0,_=>exact d⟩
theorem gO.s6 {l:List dL} (h:gO S w o l) (k:Nat):gO S w o (l.take k):=by
 intro j r;rw[dJ] at r;obtain⟨e,z,d,g,u⟩:=h j oM;exact⟨e,z,d,by rw[g,eY],u⟩
theorem gO.s7 {g d:Nat} {l:List dL} (h:gO S w (dF ⟨g,d,dE⟩) l) (k:Nat):gO S w (dF ⟨g,d+k,dE⟩) (l.drop k):=by
 intro j z;rw[dQ] at z;obtain⟨r,j8,e,u,A⟩:=h (k+j) oM;obtain⟨rfl,rfl⟩:g=r/\d=j8:=by simpa using e
 exact⟨g,d+k,rfl,by rw[Nat.add_assoc,u,List.getElem_drop],A⟩
theorem Np (n:Nd) (x:Kv) (po ko:Option Addr) (pc kc:Nat) (w:dH) (ab: ∀b,S b->b<w.heap.size) (ar:jf S w (il po pc ko kc n) n) (X:n.gC=[]) (aZ:n.ps.length<=3) (ac:jZ n.ps):
  ez dP 146 #[hE (il po pc ko kc n).toArray, hE #[hA x.1, hA x.2]] w (oq S w (lY x n)):=by
 have ax:n.gC.length=0:=by rw[X];rfl
 obtain⟨q,ah⟩:=nM n.ps.length;obtain⟨ai,ay⟩:=nM n.page;have aq:il po pc ko kc n=[ht po q pc, ht ko 0 kc, gE ha ai]:=by unfold il;rw[ax,ah,ay]
 obtain⟨az,A,-,-⟩:=ar.parts;have D:=fun W (u:dN w.heap.size w W)=>Nn n.ps x po pc W (S:=S) (A.same' fun b h=>u.block b (ab b h)) az (fun b h=>iU (ab b h) u.size) oM ac;obtain⟨e,F⟩:=nM (iN n.ps x);have aK:e.length<=4:=by rw[<-F, <-Gf ac];have:=Gg n.ps x;omega
 have aJ:1<=e.length:=by rw[<-F];unfold iN;simp;omega
 rw[F] at D;obtain⟨m,af⟩:=nM e.length;rw[af] at D aK aJ;simp only[ah] at D;obtain⟨aV,aa⟩:=nM (oq S w (lY x n));have aw:lY x n=if 3<m then [kR (e.take 2),kR (e.drop 2)] else [kR e]:=by
  unfold lY;rw[vZ X,F]
  by_cases h:3<m
  rw[if_pos h,xK oM];rfl;rw[if_neg h,wa oM];rfl
 rw[aq,aa];obtain⟨M,O⟩:=x;simp only at D |-;obtain⟨N,au⟩:=nM w.heap.size;obtain⟨W0,H⟩:=nM ((w.alloc (hF #[ht po q pc, ht ko 0 kc, gE ha ai] 95)).alloc (hF #[hA M, hA O] 77));have Y:dN w.heap.size w W0:=by subst H;exact(Below.one w _).alloc oC _
 have aB:Bx W0 N #[ht po q pc, ht ko 0 kc, gE ha ai] 95:=by subst H au;exact(Bx.new w _ _).alloc _
 have aC:Bx W0 (N+1) #[hA M, hA O] 77:=by subst H au;exact Bx.ir _ _ _ _ oC
 have am:=gF (D W0 Y);have ao:=gF aw;have C:=gF af;have al:=gF aa;have R:=gF Y;obtain⟨aE,aS⟩:=aB.c2;obtain⟨aF,aT⟩:=aC.c2;clear D aw af aa F ah ay aq ax X ar A az ac Y;go_enter func146,ntmps146;go_wp2_with fail;refine am.o.mono ?_;rintro aX L ⟨o,c,rfl,ag,aL⟩;have B:=iq R.o aL;have a0: ∀b,S b->b<w.heap.size:=ab;clear aE aS aF aT aB aC H am;rcases ag.2 with⟨V,aY⟩|⟨d,aW,aG,V,I,av,a6,ad,aN,aP⟩;omega;simp only[ew,true_and] at V;obtain⟨rfl,rfl⟩:=V;obtain⟨aU,c',ap,a7,A,-⟩:=nC ag;obtain⟨rfl,rfl⟩:dF (⟨d,0,dE⟩:Addr)=aU/\c=c':=by simpa using ap
 have a5:=(eJ.1 av).1;have ak:=gF (gK A (gK B I));have aM:=ad;unfold dV at aM;clear ag av aN aP A ap I aG
 by_cases aH:3<m
 .
  obtain rfl:m=4:=oM
  have Z:Hid (lY (M,O) n=[kR (e.take 2),kR (e.drop 2)]):=gF (by rw[ao.o,if_pos oM]);have a3:c≠2:=oM
  have aD:=jv.cells L;go_upto_region 4 with fail
  refine pS 8 0 #[dI,dI,dI,dI,dI,dI,dI,dI] (fun i=>if i=2 then dF (iw (hE #[ht (dF ⟨d,0,dE⟩) 2 c, ht dE 0 0, gE ha 0])) else if i=5 then dF (iw (hE #[ht (dF ⟨d,4,dE⟩) 2 (c - 2), ht dE 0 0, gE ha 0])) else if i=6 then dF (p8 2 [ht (dF ⟨d,0,dE⟩) 2 c, ht dE 0 0, gE ha 0, ht (dF ⟨d,4,dE⟩) 2 (c - 2), ht dE 0 0, gE ha 0] 95) else dE) oP oO oO oP ?_;simp only[ef,eg];refine LW.b 2 2 ?_;simp only[jC];repeat (go_big_quiet_step (fail))
  refine dS ?_;refine LW.z ?_ ?_;intro aj _;exact pC ((by go_simp));intro _;simp only[dY,gU]
  (try simp only[iw])
  refine LW.b 2 5 ?_;simp only[jC];repeat (go_big_quiet_step (fail))
  refine dS ?_;refine LW.z ?_ ?_;intro aj _;exact pC ((by go_simp));intro _;simp only[dY,gU]
  (try simp only[iw])
  refine LW.z ?_ ?_;. intro aj a4;unfold ix;go_simp;exact⟨Below.one _ _,fun _=>eL,rfl,fun a8 u=>(Bx.new aj.w _ _).gD u⟩
  intro aA;simp only[dY,gU,p8];refine LW.b 1 8 ?_;simp only[jC];repeat (go_big_quiet_step (fail))
  refine dS ?_;refine LW.done ?_;intro W8 G;have r:Bx W8 aA.lo #[ht (dF ⟨d,0,dE⟩) 2 c, ht dE 0 0, gE ha 0, ht (dF ⟨d,4,dE⟩) 2 (c - 2), ht dE 0 0, gE ha 0] 95:=G.get 6 rfl rfl;have ae:=(G.range 6 aA rfl).1;have g:=G.below;have U:=gF (gK r (gK ae g));clear G r ae g aD;refine kS ?_;go_wp2;rw[<-al.o,Z.o];obtain⟨r,ae,g⟩:=U.o;obtain⟨A,B,I⟩:=ak.o;have aR:=B.size;have aQ:=R.o.size;have aI:=g.size;have J:gO (fun b=>S b\/(w.heap.size<=b/\b<W8.heap.size)) W8 (dF ⟨d,0,dE⟩) (gV e):=(gO.same' A fun b u=>g.block b u.2).mono fun b u=> .inr ⟨oM,oM⟩;refine⟨iq B g,_,_,rfl, .inr ⟨_,rfl,eo _,by simp[dV]⟩,?_⟩;have aO:=r.lt;refine wE (c1:=[ht (dF ⟨d,0,dE⟩) 2 c, ht dE 0 0, gE ha 0]) (c2:=[ht (dF ⟨d,4,dE⟩) 2 (c - 2), ht dE 0 0, gE ha 0]) ((gO.bx r).mono fun b u=> .inr ⟨oM,oM⟩) ?_ ?_;have:=jf.leaf (S:=fun b=>S b\/(w.heap.size<=b/\b<W8.heap.size)) (w:=W8) (po:=dF ⟨d,0,dE⟩) (pc:=c) (ps:=e.take 2) (page:=0) (.inr ⟨_,rfl,by rw[dJ,C.o];omega,ad⟩) (by rw[xL];exact J.s6 _);rw[show(e.take 2).length=2 by rw[dJ,C.o];rfl] at this;exact this;have:=jf.leaf (S:=fun b=>S b\/(w.heap.size<=b/\b<W8.heap.size)) (w:=W8) (po:=dF ⟨d,4,dE⟩) (pc:=c - 2) (ps:=e.drop 2) (page:=0) (.inr ⟨_,rfl,by rw[dQ,C.o];omega,oM⟩) (by
   rw[xM];simpa using J.s7 4)
  rw[show(e.drop 2).length=2 by rw[dQ,C.o]] at this;exact this
 have Z:Hid (lY (M,O) n=[kR e]):=gF (by rw[ao.o,if_neg aH]);have g:=Below.one L (hF #[ht (dF ⟨d,0,dE⟩) m c, ht dE 0 0, gE ha 0] 95);have r:=Bx.new L #[ht (dF ⟨d,0,dE⟩) m c, ht dE 0 0, gE ha 0] 95;obtain⟨W8,E⟩:=nM (L.alloc (hF #[ht (dF ⟨d,0,dE⟩) m c, ht dE 0 0, gE ha 0] 95));rw[E] at g r;have U:=gF (gK r (gK g E));clear r g E;go_wp2;rw[<-al.o,Z.o];obtain⟨r,g,E⟩:=U.o;rw[E];obtain⟨A,B,I⟩:=ak.o;have aR:=B.size;have aQ:=R.o.size;have aI:=g.size;have J:gO (fun b=>S b\/(w.heap.size<=b/\b<W8.heap.size)) W8 (dF ⟨d,0,dE⟩) (gV e):=(gO.same' A fun b u=>g.block b u.2).mono fun b u=> .inr ⟨oM,oM⟩;refine⟨iq B g,_,_,rfl, .inr ⟨_,rfl,eo _,by simp[dV]⟩,?_⟩;have aO:=r.lt;refine s5 (c1:=[ht (dF ⟨d,0,dE⟩) m c, ht dE 0 0, gE ha 0]) ((gO.bx r).mono fun b u=> .inr ⟨oM,oM⟩) ?_;have:=jf.leaf (S:=fun b=>S b\/(w.heap.size<=b/\b<W8.heap.size)) (w:=W8) (po:=dF ⟨d,0,dE⟩) (pc:=c) (ps:=e) (page:=0) (.inr ⟨_,rfl,by rw[C.o];omega,ad⟩) J;rw[C.o] at this;exact this
theorem Tm.h0 {a b h:Nat} {n:Nd} (t:Tm a b h n) (d:n.gC=[]):Tm a b 0 n:=by
 have:=t.leaf.2 d;subst this;exact t
theorem Tm.hs (t:Tm a b h n) (d:n.gC≠[]): ∃g,h=g+1:=by
 cases h with
 | zero=>exact absurd (t.leaf.1 rfl) d
 | succ g=>exact⟨g,rfl⟩
theorem Gi {k:Nd} (h:jZ n.iv) (d:n.gC≠[]) (e:k∈n.gC):jZ k.iv:=by
 rw[Nd.iu d] at h;exact h.sub (List.sublist_flatten_of_mem (List.mem_map.2 ⟨_,e,rfl⟩))
theorem Nq (x:Kv): ∀(n:Nd) {a b h:Nat} (po ko:Option Addr) (pc kc:Nat) (w:dH) {S:Nat->Prop},(∀b,S b->b<w.heap.size)->jf S w (il po pc ko kc n) n->Tm a b h n->jZ n.iv->
  ez dP 146 #[hE (il po pc ko kc n).toArray, hE #[hA x.1, hA x.2]] w (oq S w (lY x n)):=by
 intro n
 induction n using Nd.pW with
 | h n cH=>
 intro a b h po ko pc kc w S g ao t O
 by_cases G:n.gC=[]
 have dg:=(t.h0 G).px;exact Np n x po ko pc kc w g ao G dg.2.2.1 (by rw[Nd.iJ G] at O;exact O);obtain⟨cr,rfl⟩:=t.hs G;obtain⟨-,-,-,bt,bb⟩:=t.lK;have bH:=p7 x.1 G;have cE:=Gb bb (by rw[<-Nd.iu G];exact O);have cq: ∀k∈n.gC,k.first=true:=fun k ag=>((bb k ag).qN oF oF).first;obtain⟨bg,cv,cw,cx,cy⟩:=info_parts wC;have A:=gF (gK cv (gK cw (gK cx cy)));clear cv cw cx cy;obtain⟨k,ag⟩:=nM (ly n.gC x.1);obtain⟨c,a7⟩:=nM (n.gC[ly n.gC x.1]'bH);have Z:c∈n.gC:=by rw[<-a7];exact List.getElem_mem _
 have a9:=fun po ko pc kc W S g ao=>cH c Z (a:=2) (b:=4) (h:=cr) po ko pc kc W (S:=S) g ao (bb c Z) (Gi O G Z);obtain⟨lc,bI⟩:=nM (lY x c);have a8:=Gh x c;rw[bI] at a9 a8;have ct:lY x n=if 8<(n.gC.take k++lc++n.gC.drop (k+1)).length then [kt ((n.gC.take k++lc++n.gC.drop (k+1)).take 5),kt ((n.gC.take k++lc++n.gC.drop (k+1)).drop 5)] else [kt (n.gC.take k++lc++n.gC.drop (k+1))]:=by
  have aN:n.gC.take k++lc++n.gC.drop (k+1)≠[]:=by intro d;have:=congrArg List.length d;simp at this;rw[this.2.1] at a8;simp at a8
  have X:jB x n=jA (kt (n.gC.take k++lc++n.gC.drop (k+1))):=by rw[xJ G,a7,ag, <-bI];rfl
  unfold lY;rw[X]
  by_cases h:8<(n.gC.take k++lc++n.gC.drop (k+1)).length
  rw[if_pos h,zj aN h];rfl;rw[if_neg h,wZ aN oM];rfl
 have cn: ∀cr:k<n.gC.length,n.gC[k]=c:=by rw[<-ag];exact fun _=>a7
 have ba:k<n.gC.length:=by rw[<-ag];exact bH
 obtain⟨c8,da,cC,bB⟩:=ao.parts;have aJ:=fun W (e:dN w.heap.size w W)=>Ge n x.1 po ko pc kc W ((ao.keep g e).c fun b h=>iU (g b h) e.size) cq cE G;rw[ag] at aJ;obtain⟨m,aM⟩:=nM n.gC.length;obtain⟨q,cB⟩:=nM n.ps.length;obtain⟨bT,cA⟩:=nM n.page;have bw:il po pc ko kc n=[ht po q pc, ht ko m kc, gE ha bT]:=by unfold il;rw[aM,cB,cA]
 obtain⟨di,bD⟩:=nM (oq S w (lY x n));obtain⟨aT,aV⟩:=x;simp only at aJ a9 |-;rw[bw] at aJ;rw[bw,bD];have c6:=(ox cC).1;rw[aM] at c6 bt ba cC;obtain⟨aZ,cJ,-,-,-,-,c4,c0,-⟩:=bB.get (i:=k) (by rw[aM];exact ba);obtain⟨N,ce⟩:=nM w.heap.size;obtain⟨W0,a5⟩:=nM ((w.alloc (hF #[ht po q pc, ht ko m kc, gE ha bT] 95)).alloc (hF #[hA aT, hA aV] 77));have bu:dN w.heap.size w W0:=by subst a5;exact(Below.one w _).alloc oC _
 have bW:Bx W0 N #[ht po q pc, ht ko m kc, gE ha bT] 95:=by subst a5 ce;exact(Bx.new w _ _).alloc _
 have bX:Bx W0 (N+1) #[hA aT, hA aV] 77:=by subst a5 ce;exact Bx.ir _ _ _ _ oC
 have b7:=gF (aJ W0 bu);have b8:=gF a9;have cR:=gF ct;have aj:=gF aM;have b4:=gF bD;have b3:=gF bu;have bl:=gF bB;have cQ:=gF cn;obtain⟨ac,ai⟩:=bW.c2;obtain⟨bp,bS⟩:=bX.c2;obtain⟨ml,bN⟩:=nM lc.length;rw[bN] at a8;have aX:=gF bN;subst c4;clear aJ a9 ct aM bD cB cA bw G ao da c8 O bu bB cn ag a7 Z bI cE cq bb t cH bN bH;go_enter func146,ntmps146;have dv:((m:Int)==0)=false:=oN
 go_wp2_with fail;refine b7.o.mono ?_;rintro d aS ⟨rfl,ae⟩;have ak:=iq b3.o ae;have dc:=b3.o.size;have bh:=bW.gD ae;have bY:=bX.gD ae;clear ac ai bp bS bW bX b7;obtain⟨ac,ai⟩:=bh.c2;obtain⟨KC,aQ,cI,bf⟩:=bl.o.keep g (ak.alloc ak.size (hF #[] 95));have aG:=s3 aQ bf;have bO:=tu aS W0.heap.size _ 95 3 rfl ae.size;have cN:=bh.alloc (hF #[] 95);have cP:=bY.alloc (hF #[] 95);have a0:=ak.alloc ak.size (hF #[] 95);have bk:=gF (gK aQ bf);have cp:(KC.take k).flatten.length=k * 3:=by rw[z6 aG,dJ,vr aG,aQ,aj.o];omega
 have aW:=gF (gK (z6 aG k▸cI.s6 (k * 3)) (gK cp (fun bU cD=>wD aQ bf bU (by rw[z6 aG] at cD;exact List.mem_of_mem_take cD): ∀bU∈(KC.take k).flatten,bU.oneCell'=dI)));have du:k<=m:=oM
 have dt:k<=kc:=oM
 clear cI cp bf aQ;go_upto_region 8 with (at_builtin;refine zZ rfl _ _ 93 rfl W0.heap.size 95 bg _ 3 56 dW A.o.1 A.o.2.1 A.o.2.2.1 A.o.2.2.2 rfl oF (.slice (dF ⟨aS.heap.size,0,dE⟩) 0 0) 0 [] rfl bO (dF ⟨aZ,cJ,dE⟩) k kc (KC.take k).flatten rfl (by intro d;cases d) aW.o.2.1 aW.o.1 aW.o.2.2 (by unfold dV;omega) oM (by simp;have:=ae.size;omega) ?_;intro dC w3 bP ar cl)
 obtain⟨ab,V,rfl⟩:=pD bP;have cg: ∀b,S b->b<(aS.alloc (hF #[] 95)).heap.size:=fun b h=>by have:=g b h;have:=a0.size;omega
 have ad:iM S W0.heap.size w3 (ht ab (0+k) V) (n.gC.take k):=by
  have c3: ∀b,S b->(dK (dF ⟨aS.heap.size,0,dE⟩) 0 0).ownBlock≠dF b:=fun b h d=>by have:=g b h;have:=ak.size;simp[ey] at d;omega
  have:=iM.app (S:=S) (l:=[]) (KC:=[]) (m:=n.gC.take k) (KM:=KC.take k) rfl (fun i h=>by simp at h) cg (by rw[dJ,dJ,bk.o.1]) (fun i h aF=>by
   simp only[eY];exact(bk.o.2 i (by rw[dJ] at h;omega) (by rw[dJ] at aF;omega)).up fun b e=>⟨e,c3 b e⟩) (b0:=W0.heap.size) (v:= ht (dF ⟨aS.heap.size,0,dE⟩) 0 0) (v':= ht ab (0+k) V) (w':=w3) (by
    rw[show(n.gC.take k).length=k by rw[dJ,aj.o];omega];simpa using bP) ar cl
  simpa using this
 rw[ec] at ad |-;have F:dN w.heap.size w w3:=Below.jq a0 (qL bO dc) ar a0.size;have ax:=cN.grown ar (fun d=>by have:=bh.lt;simp[ey] at d;omega);have ay:=cP.grown ar (fun d=>by have:=bY.lt;simp[ey] at d;omega);have ah: ∀b,(dK ab k V).ownBlock=dF b->W0.heap.size<=b/\b<w3.heap.size:=fun b d=>by obtain⟨_,_,aO,_⟩:=ad;exact aO.lt b d
 have dw:W0.heap.size<=w3.heap.size:=by have:=ae.size;have:=ar.size;simp at this;omega
 have dm:N+1<W0.heap.size:=by subst a5;simp;omega
 clear bP ar cl bO cN cP a0 bh bY ak ae aW bk aG ac ai cg;obtain⟨cU,j8,cK,c1,cL,b9,cb,-,ca,X,br,bC⟩:=(bl.o.keep g F).get (i:=k) (by rw[aj.o];exact ba);obtain⟨rfl,rfl⟩:aZ=cU/\cJ=j8:=by simpa using cb
 have co:=cQ.o (by rw[aj.o];exact ba);rw[co] at ca X br bC;have ds:aZ<w3.heap.size:=by have:=g aZ c0;have:=F.size;omega
 have bF: ∀y:jv w3,ez dP 146 #[hE (il cK c1 cL b9 c).toArray, hE #[hA aT, hA aV]] y.w (oq S y.w lc):=fun y=>
  b8.o cK cL c1 b9 y.w S (fun b h=>by have:=g b h;have:=F.size;have:=y.h.size;omega) (bC.keep (fun b h=>by have:=g b h;have:=F.size;omega) y.h)
 unfold il at bF;have b6:=gF bF;have b5:Hid (∀(y:jv w3) b,S b->b<y.w.heap.size):=gF (fun y b h=>by have:=g b h;have:=F.size;have:=y.h.size;omega);obtain⟨ac,ai⟩:=ax.c2;obtain⟨bp,bS⟩:=ay.c2;have bo:=jv.cells w3;have bZ:=gF (gK ad (gK ax (gK ay (gK F ah))));clear bF co cb bC ad ax ay F ah b8;refine pS 8 2 #[dI,dI,dI,dI,dI,dI,dI,dI,dO,dO] (fun i=>if i=7 then dF (s4 S lc) else dE) oP oO oO oP ?_;simp only[ef,eg];refine LW.b 7 7 ?_;simp only[jC];repeat (go_big_quiet_step (fail))
 refine dS ?_;refine LW.z ?_ ?_;. intro bj _;unfold ix;go_simp;exact yg (b5.o _) (b6.o _)
 intro H;simp only[dY,gU,s4];refine LW.done ?_;intro aB J;have cc:jk (jK (H.x 0)) lc.length (j3 (H.x 0))/\jw (fun b=>S b\/(H.lo<=b/\b<H.hi)) aB (jK (H.x 0)) lc:=J.get 7 rfl rfl;have c9:=J.range 7 H rfl;have aq:=J.below;obtain⟨df,bR⟩:=nM (jK (H.x 0));obtain⟨de,bQ⟩:=nM (j3 (H.x 0));obtain⟨aw,bK⟩:=nM H.lo;obtain⟨av,bG⟩:=nM H.hi;rw[bR,bQ,bK,bG] at cc;rw[bK,bG] at c9;rw[bR,bQ];clear bR bQ bK bG J;obtain⟨ad,ax,ay,F,ah⟩:=bZ.o;have bE: ∀b,S b->b<w3.heap.size:=fun b h=>by have:=g b h;have:=F.size;omega
 have dx:=aq.size;obtain⟨aY,a1,a2,aC⟩:=(ad.stays bE aq).up (T:=fun b=>S b\/(aw<=b/\b<av)) fun b h=> .inl h;obtain⟨bs,KM,E,aD,I⟩:=cc;rw[aX.o] at bs |-;have ch: ∀b,(S b\/(aw<=b/\b<av))->b<aB.heap.size:=fun b h=>by rcases h with h|h;have:=bE b h;omega;omega
 have cj: ∀b,(S b\/(aw<=b/\b<av))->(dK ab k V).ownBlock≠dF b:=fun b h d=>by have:=ah b d;rcases h with h|h;have:=g b h;omega;omega
 have bJ:(n.gC.take k).length=k:=by rw[dJ,aj.o];omega
 rw[bJ] at a2;have cz:=wD E I;have aK:KM.flatten.length=ml * 3:=by rw[vr (s3 E I),E,aX.o]
 have B:=gF (gK a2 (gK aK (gK aD (gK cz bs.nil))));have aU:=ax.gD aq;have bi:=ay.gD aq;have al:=iq F aq;have b1:=gF (gK aU (gK bi al));have R:Hid (∀(v':dL) (w':dH),w'.ownsRow W0.heap.size 95 3 v' (k+ml) (aY.flatten++KM.flatten)->aB.grownBy w' (dK ab k V).ownBlock->(v'.ownBlock=(dK ab k V).ownBlock\/v'.ownBlock=dF aB.heap.size)->iM (fun b=>S b\/(aw<=b/\b<av)) W0.heap.size w' v' (n.gC.take k++lc)):=gF (fun v' w' aO aL O=>
  iM.app (by rw[a1]) aC ch E (fun i h aF=>(I i h aF).up fun b e=>⟨e,cj b e⟩) (by rw[bJ,aX.o];exact aO) aL O)
 have ck:W0.heap.size<=aB.heap.size:=oM
 clear ac ai bp bS bo ca X br b6 b5 a1 a2 aC E aD I bs cz aK ad ax ay F ch cj aU bi al aq;refine iG 8 fun K hK=>?_;refine Cf (.tmp 39) (.tmp 46) 93 rfl W0.heap.size 95 bg _ 3 56 dW A.o.1 A.o.2.1 A.o.2.2.1 A.o.2.2.2 rfl oF (.slice ab k V) k aY.flatten rfl B.o.1 df ml de KM.flatten rfl B.o.2.2.2.2 B.o.2.1 B.o.2.2.1 B.o.2.2.2.1 (by unfold dV;omega) oM ck ?_;intro dh w5 aP af cm;refine hK _ _ ?_;clear hK K;have cX:=R.o dh w5 aP af cm;obtain⟨aR,aE,rfl⟩:=pD aP;simp only[dY,gU];refine iG 9 fun K hK=>?_;go_simp;refine hK _ _ ?_;clear hK K;refine kS ?_;obtain⟨aU,bi,al⟩:=b1.o;have aN: ∀b,b<=N+1->dF b≠(dK ab k V).ownBlock:=fun b e d=>by have:=(ah b d.symm).1;omega
 have cO:=aU.grown af (aN _ oM);have bv:dN w.heap.size w w5:=al.grown af al.size fun b d=>by have:=(ah b d).1;omega
 have dy:=af.size;have cG:W0.heap.size<=w5.heap.size:=jU ck af.size;have ci: ∀b,(S b\/(aw<=b/\b<av))->b<w5.heap.size:=fun b h=>by have:=af.size;rcases h with h|h;have:=bE b h;omega;omega
 obtain⟨aY,a1,a2,aC⟩:=cX;obtain⟨bn,E,aD,I⟩:=(bl.o.keep g bv).drop (k+1);have bc:(n.gC.take k++lc).length=k+ml:=by rw[iI,bJ,aX.o]
 have bd:(n.gC.drop (k+1)).length=m - (k+1):=by rw[dQ,aj.o]
 rw[bc] at a2;have aK:bn.flatten.length=(m - (k+1)) * 3:=by rw[vr (s3 E I),E,bd]
 have B:=gF (gK a2 (gK aK (gK aD (wD E I))));have cf: ∀b,S b->(dK aR (k+ml) aE).ownBlock≠dF b:=fun b h d=>by have:=(aP.lt b d).1;have:=g b h;omega
 have R:Hid (∀(v':dL) (w':dH),w'.ownsRow W0.heap.size 95 3 v' (k+ml+(m - (k+1))) (aY.flatten++bn.flatten)->w5.grownBy w' (dK aR (k+ml) aE).ownBlock->(v'.ownBlock=(dK aR (k+ml) aE).ownBlock\/v'.ownBlock=dF w5.heap.size)->iM (fun b=>S b\/(aw<=b/\b<av)) W0.heap.size w' v' (n.gC.take k++lc++n.gC.drop (k+1))):=gF (fun v' w' aO aL O=>
  iM.app (by rw[a1]) aC ci E (fun i h aF=>(I i h aF).up fun b e=>⟨.inl e,cf b e⟩) (by rw[bc,bd];exact aO) aL O)
 have cF:=fun b d=>aP.lt b d;obtain⟨ac,ai⟩:=cO.c2;have az:=gF (gK bv cF);clear a1 a2 aC E aD I aK cf aP af cm ci aU bi al cO bv bZ b1 ah aN cF;obtain⟨m1,bM⟩:=nM (m - (k+1));have cu:(m:Int) - ((k:Int)+1)=(m1:Int):=oM
 rw[bM] at B R;have cS:=gF bM
 by_cases dp:kc=k+1
 case' pos=>
  have be:m1=0:=oM
  have cW:bn.flatten=[]:=eC (by rw[B.o.2.1,be]);rw[cW] at R;subst be;have dq:kc - (k+1)=0:=oM
  go_upto_region 10 with (at_builtin;refine zZ rfl _ _ 93 rfl W0.heap.size 95 bg _ 3 56 dW A.o.1 A.o.2.1 A.o.2.2.1 A.o.2.2.2 rfl oF (.slice aR (k+ml) aE) (k+ml) _ rfl B.o.1 _ _ _ [] rfl (by intro d;cases d) rfl (gO.nil (fun _=>True) _ _) oC (by unfold dV;omega) oM cG ?_;intro bV w6 aa au a6)
  obtain⟨m1,be⟩:=nP 0;rw[<-be] at R cu cS aa;have aH:=R.o bV w6 aa au a6
 case' neg=>
  go_upto_region 10 with (at_builtin;refine zZ rfl _ _ 93 rfl W0.heap.size 95 bg _ 3 56 dW A.o.1 A.o.2.1 A.o.2.2.1 A.o.2.2.2 rfl oF (.slice aR (k+ml) aE) (k+ml) _ rfl B.o.1 _ _ _ _ rfl (by intro d;cases d) B.o.2.1 B.o.2.2.1 B.o.2.2.2 (by unfold dV;omega) oM cG ?_;intro bV w6 aa au a6)
  have aH:=R.o bV w6 aa au a6
 all_goals
  obtain⟨dB,u,rfl⟩:=pD aa;obtain⟨L,bA⟩:=nM (n.gC.take k++lc++n.gC.drop (k+1));have aA:=cR.o;rw[bA] at aH aA;have a3:L.length=k+ml+m1:=by rw[<-bA,iI,bc,bd];omega
  obtain⟨M,cd⟩:=nM (k+ml+m1);have aA:=gF aA;simp only[cd] at aH a3 aa |-;have dl:M<=9:=oM
  have dk:1<=M:=oM
  have am:dN w.heap.size w w6:=az.o.1.grown au az.o.1.size fun b d=>by have:=(az.o.2 b d).1;omega
  rcases aa.2 with⟨X,br⟩|⟨r,dj,cT,X,cY,aL,c7,Z,-,-⟩;omega;simp only[ew,true_and] at X;obtain⟨rfl,rfl⟩:=X;obtain⟨dd,c',bq,db,Y⟩:=aH.done;rw[a3] at bq;obtain⟨rfl,rfl⟩:dF (⟨r,0,dE⟩:Addr)=dd/\u=c':=by simpa using bq
  have dA:=au.size;have dz:=az.o.1.size;have Y:jw (fun b=>S b\/(w.heap.size<=b/\b<w6.heap.size)) w6 (dF ⟨r,0,dE⟩) L:=Y.up fun b e=>by rcases e with (h|h)|h;exact .inl h;exact .inr oM;exact .inr oM
  have ap: ∀b,(S b\/(w.heap.size<=b/\b<w6.heap.size))->b<w6.heap.size:=fun b e=>by rcases e with h|h;have:=g b h;omega;omega
  have cZ:=Z;unfold dV at cZ;have b2:=gF (gK Y (gK am ap));have U:=gF a3;clear aH bA a3 aa au a6 am bq db Y ap aL cY cT ac ai B R az cd bM cu bc bd
  by_cases cV:8<M
  .
   obtain rfl:M=9:=oM
   have bz:Hid (lY (aT,aV) n=[kt (L.take 5),kt (L.drop 5)]):=gF (by rw[aA.o,if_pos (by rw[U.o];omega)]);have dn:u≠5:=oM
   have bo:=jv.cells w6;go_upto_region 11 with fail
   refine pS 8 0 #[dI,dI,dI,dI,dI,dI,dI,dI] (fun i=>if i=2 then dF (iw (hE #[ht dE 0 0, ht (dF ⟨r,0,dE⟩) 5 u, gE ha 0])) else if i=5 then dF (iw (hE #[ht dE 0 0, ht (dF ⟨r,15,dE⟩) 4 (u - 5), gE ha 0])) else if i=6 then dF (p8 2 [ht dE 0 0, ht (dF ⟨r,0,dE⟩) 5 u, gE ha 0, ht dE 0 0, ht (dF ⟨r,15,dE⟩) 4 (u - 5), gE ha 0] 95) else dE) oP oO oO oP ?_;simp only[ef,eg];refine LW.b 2 2 ?_;simp only[jC];repeat (go_big_quiet_step (fail))
   refine dS ?_;refine LW.z ?_ ?_;intro bj _;exact pC ((by go_simp));intro _;simp only[dY,gU]
   (try simp only[iw])
   refine LW.b 2 5 ?_;simp only[jC];repeat (go_big_quiet_step (fail))
   refine dS ?_;refine LW.z ?_ ?_;intro bj _;exact pC ((by go_simp));intro _;simp only[dY,gU]
   (try simp only[iw])
   refine LW.z ?_ ?_;. intro bj dr;unfold ix;go_simp;exact⟨Below.one _ _,fun _=>eL,rfl,fun dD e=>(Bx.new bj.w _ _).gD e⟩
   intro cM;simp only[dY,gU,p8];refine LW.b 1 8 ?_;simp only[jC];repeat (go_big_quiet_step (fail))
   refine dS ?_;refine LW.done ?_;intro W8 J;have D:Bx W8 cM.lo #[ht dE 0 0, ht (dF ⟨r,0,dE⟩) 5 u, gE ha 0, ht dE 0 0, ht (dF ⟨r,15,dE⟩) 4 (u - 5), gE ha 0] 95:=J.get 6 rfl rfl;have bL:=(J.range 6 cM rfl).1;have C:=J.below;have bm:=gF (gK D (gK bL C));clear J D bL C bo;refine kS ?_;go_wp2;rw[<-b4.o,bz.o];obtain⟨D,bL,C⟩:=bm.o;obtain⟨Y,am,ap⟩:=b2.o;have bt:=C.size;have a4:=(Y.keep ap C).up (T:=fun b=>S b\/(w.heap.size<=b/\b<W8.heap.size)) fun b e=>e.imp id fun h=>⟨h.1,oM⟩;refine⟨iq am C,_,_,rfl, .inr ⟨_,rfl,eo _,by simp[dV]⟩,?_⟩;have c5:=D.lt;refine wE (c1:=[ht dE 0 0, ht (dF ⟨r,0,dE⟩) 5 u, gE ha 0]) (c2:=[ht dE 0 0, ht (dF ⟨r,15,dE⟩) 4 (u - 5), gE ha 0]) ((gO.bx D).mono fun b e=> .inr ⟨oM,oM⟩) ?_ ?_;have:=jf.of (S:=fun b=>S b\/(w.heap.size<=b/\b<W8.heap.size)) (w:=W8) (po:=dE) (pc:=0) (ps:=[]) (ko:=dF ⟨r,0,dE⟩) (kc:=u) (gC:=L.take 5) 0 (.inl ⟨rfl,rfl,rfl⟩) (gO.nil _ _ _) (.inr ⟨_,rfl,by rw[dJ,U.o];omega,Z⟩) (a4.take 5);unfold il at this;simp only[Nd.ps,Nd.gC,Nd.page,ee,show(L.take 5).length=5 by rw[dJ,U.o];rfl] at this;exact this;have:=jf.of (S:=fun b=>S b\/(w.heap.size<=b/\b<W8.heap.size)) (w:=W8) (po:=dE) (pc:=0) (ps:=[]) (ko:=dF ⟨r,15,dE⟩) (kc:=u - 5) (gC:=L.drop 5) 0 (.inl ⟨rfl,rfl,rfl⟩) (gO.nil _ _ _) (.inr ⟨_,rfl,by rw[dQ,U.o];omega,oM⟩) (by simpa using a4.drop 5);unfold il at this;simp only[Nd.ps,Nd.gC,Nd.page,ee,show(L.drop 5).length=4 by rw[dQ,U.o]] at this;exact this
  have bz:Hid (lY (aT,aV) n=[kt L]):=gF (by rw[aA.o,if_neg (by rw[U.o];exact cV)]);have C:=Below.one w6 (hF #[ht dE 0 0, ht (dF ⟨r,0,dE⟩) M u, gE ha 0] 95);have D:=Bx.new w6 #[ht dE 0 0, ht (dF ⟨r,0,dE⟩) M u, gE ha 0] 95;obtain⟨W8,aI⟩:=nM (w6.alloc (hF #[ht dE 0 0, ht (dF ⟨r,0,dE⟩) M u, gE ha 0] 95));rw[aI] at C D;have bm:=gF (gK D (gK C aI));clear D C aI;go_wp2;rw[<-b4.o,bz.o];obtain⟨D,C,aI⟩:=bm.o;rw[aI];obtain⟨Y,am,ap⟩:=b2.o;have bt:=C.size;have a4:=(Y.keep ap C).up (T:=fun b=>S b\/(w.heap.size<=b/\b<W8.heap.size)) fun b e=>e.imp id fun h=>⟨h.1,oM⟩;refine⟨iq am C,_,_,rfl, .inr ⟨_,rfl,eo _,by simp[dV]⟩,?_⟩;have c5:=D.lt;refine s5 (c1:=[ht dE 0 0, ht (dF ⟨r,0,dE⟩) M u, gE ha 0]) ((gO.bx D).mono fun b e=> .inr ⟨oM,oM⟩) ?_;have:=jf.of (S:=fun b=>S b\/(w.heap.size<=b/\b<W8.heap.size)) (w:=W8) (po:=dE) (pc:=0) (ps:=[]) (ko:=dF ⟨r,0,dE⟩) (kc:=u) (gC:=L) 0 (.inl ⟨rfl,rfl,rfl⟩) (gO.nil _ _ _) (.inr ⟨_,rfl,by rw[U.o];exact c7,Z⟩) a4;unfold il at this;simp only[Nd.ps,Nd.gC,Nd.page,ee,U.o] at this;exact this
theorem Nr (x:Kv) (n:Nd): ∃r:0<(lY x n).length,ku (dF n) x=if (lY x n).length=2 then kt (lY x n) else (lY x n)[0]:=by
 obtain⟨g,d,e⟩: ∃g d,jB x n=(g,d):=⟨_,_,rfl⟩;cases d
 case' none=>have h:=Br (x:=x) (n:=n) (by rw[e])
 rotate_left
 case' some b=>have h:=Bt (x:=x) (n:=n) (b:=b) (by rw[e])
 all_goals rw[h];refine⟨by simp[lY],?_⟩;simp[lY,e]
theorem Ns (x:Kv) (D:Option Addr) (a1 a2:Nat) (b0:Option Addr) (E F:Nat) (J:Int) (w:dH) (S:Nat->Prop):
  ez dP 112 #[hE #[ht D a1 a2, ht b0 E F, gE ha J], .bool dO, hE #[hA x.1, hA x.2]] w (lv S w (ku dE x)):=by
 obtain⟨d,e⟩:=x;obtain⟨N,H⟩:=nM w.heap.size;obtain⟨Z,B⟩:=nM (lv S w (ku dE (d,e)));rw[B];have U:=gF B;obtain⟨W0,z⟩:=nM (((w.alloc (hF #[ht D a1 a2, ht b0 E F, gE ha J] 95)).alloc (hF #[hA d, hA e] 77)).alloc (hF #[ht dE 0 0, ht dE 0 0, gE ha 0] 95));have A:dN w.heap.size w W0:=by subst z;exact((Below.one w _).alloc oC _).alloc oN _
 have Y:Bx W0 (N+1) #[hA d, hA e] 77:=by subst z H;exact(Bx.ir _ _ _ _ oC).alloc _
 have L:Bx W0 (N+1+1) #[ht dE 0 0, ht dE 0 0, gE ha 0] 95:=by subst z H;exact Bx.ir _ _ _ _ oC
 clear B;go_enter func112,ntmps112;go_upto_region 2 with fail
 obtain⟨ab,ah⟩:=Y.c2;obtain⟨aa,ag,ac⟩:=L.c3;obtain⟨W1,r⟩:=nM (((W0.setCell ⟨N+1+1,0,dE⟩ (ht (dF ⟨W0.heap.size,0,dE⟩) 1 1)).setCell ⟨N+1+1,1,dE⟩ (ht dE 0 0)).setCell ⟨N+1+1,2,dE⟩ (gE ha 0));obtain⟨Wf,u⟩:=nM (W1.alloc (hF #[hA d, hA e] 77));have I:W1.heap.size=W0.heap.size:=by rw[<-r];simp
 have R:Bx Wf (N+1+1) #[ht (dF ⟨W0.heap.size,0,dE⟩) 1 1, ht dE 0 0, gE ha 0] 95:=by rw[<-u, <-r];refine Bx.alloc ?_ _;have:=((L.set 0 (ht (dF ⟨W0.heap.size,0,dE⟩) 1 1)).set 1 (ht dE 0 0)).set 2 (gE ha 0);simpa using this
 have O:Bx Wf W0.heap.size #[hA d, hA e] 77:=by rw[<-u];exact Bx.ir _ _ _ _ I.symm
 have M:dN w.heap.size w Wf:=by
  have G:dN w.heap.size w W1:=by rw[<-r];exact iT (iT (iT A oM) oM) oM
  rw[<-u];exact G.alloc G.size _
 have g:=gF (gK R (gK O (gK M u)));have af:=A.size;have V:=gF r;clear R O M u A z r I;go_wp2;have C:=g.o.2.2.2;rw[<-V.o] at C;rw[C];have X:=g.o.1.cell;refine ek (v:= hE #[ht (dF ⟨W0.heap.size,0,dE⟩) 1 1, ht dE 0 0, gE ha 0]) (by simp[eP,eE,go_sem,X]) rfl ?_;rw[<-U.o];refine⟨g.o.2.2.1,dF ⟨W0.heap.size,0,dE⟩,1,dE,0,rfl,?_⟩;have ae:=g.o.2.1.lt;exact jf.leaf (ps:=[(d,e)]) (page:=0) (.inr ⟨_,rfl,eo _,by simp[dV]⟩) ((gO.bx g.o.2.1).mono fun b ad=> .inr ⟨oM,oM⟩)
theorem Nt (x:Kv) (n:Nd) (po ko:Option Addr) (pc kc:Nat) (w:dH) (Y: ∀b,S b->b<w.heap.size) (aw:jf S w (il po pc ko kc n) n) (t:Tm a b h n) (ax:jZ n.iv):
  ez dP 112 #[hE (il po pc ko kc n).toArray, .bool dI, hE #[hA x.1, hA x.2]] w (lv S w (ku (dF n) x)):=by
 have H:=fun W (d:dN w.heap.size w W)=>Nq x n po ko pc kc W (S:=S) (fun b h=>iU (Y b h) d.size) (aw.keep Y d) t ax;have ay:=Gh x n;have Z:=Nr x n;obtain⟨l,af⟩:=nM (lY x n);rw[af] at H ay;have Z: ∃av:0<l.length,ku (dF n) x=if l.length=2 then kt l else l[0]:=by subst af;exact Z
 obtain⟨q,aE⟩:=nM n.ps.length;obtain⟨mk,az⟩:=nM n.gC.length;obtain⟨ai,aD⟩:=nM n.page;have ac:il po pc ko kc n=[ht po q pc, ht ko mk kc, gE ha ai]:=by unfold il;rw[aE,az,aD]
 rw[ac] at H;rw[ac];obtain⟨L,O⟩:=x;simp only at H |-;obtain⟨N,ad⟩:=nM w.heap.size;obtain⟨m,ag⟩:=nM l.length;obtain⟨aO,ae⟩:=nM (lv S w (ku (dF n) (L,O)));rw[ae];rw[ag] at ay;have al:=gF ae;have C:=gF ag;have ao:=gF Z;obtain⟨W0,F⟩:=nM (((w.alloc (hF #[ht po q pc, ht ko mk kc, gE ha ai] 95)).alloc (hF #[hA L, hA O] 77)).alloc (hF #[ht dE 0 0, ht dE 0 0, gE ha 0] 95));have E:dN w.heap.size w W0:=by subst F;exact((Below.one w _).alloc oC _).alloc oN _
 have aF:Bx W0 N #[ht po q pc, ht ko mk kc, gE ha ai] 95:=by subst F ad;exact((Bx.new w _ _).alloc _).alloc _
 have aG:Bx W0 (N+1) #[hA L, hA O] 77:=by subst F ad;exact(Bx.ir _ _ _ _ oC).alloc _
 have aj:Bx W0 (N+1+1) #[ht dE 0 0, ht dE 0 0, gE ha 0] 95:=by subst F ad;exact Bx.ir _ _ _ _ oC
 have am:=gF (H W0 E);obtain⟨aI,aM⟩:=aF.c2;obtain⟨aJ,aN⟩:=aG.c2;clear H Z ag ae aE az aD ac af aw ax t;go_enter func112,ntmps112;go_wp2_with fail;refine am.o.mono ?_;rintro aQ z ⟨G,o,c,rfl,ah,X⟩;have V:=iq E G;have M:=aj.gD G;have aT:=aj.lt;have aW:=G.size;have aV:=E.size;rw[C.o] at ah |-;clear aI aM aJ aN aF aG F am aj;obtain⟨aP,aX,aR⟩:=M.c3;have aA: ∀b,(S b\/(W0.heap.size<=b/\b<z.heap.size))->b≠N+1+1:=fun b d=>by rcases d with h|h;have:=Y b h;omega;omega
 by_cases aK:m=2
 .
  subst aK;have U:Hid (ku (dF n) (L,O)=kt l):=gF (by obtain⟨_,h⟩:=ao.o;rw[h,if_pos C.o]);have ak:=gF (gK X ah);clear X;obtain⟨Wf,e⟩:=nM (((z.setCell ⟨N+1+1,0,dE⟩ (ht dE 0 0)).setCell ⟨N+1+1,1,dE⟩ (ht o 2 c)).setCell ⟨N+1+1,2,dE⟩ (gE ha 0));have R:Bx Wf (N+1+1) #[ht dE 0 0, ht o 2 c, gE ha 0] 95:=by rw[<-e];have:=((M.set 0 (ht dE 0 0)).set 1 (ht o 2 c)).set 2 (gE ha 0);simpa using this
  have u: ∀b,b≠N+1+1->Wf.heap[b]?=z.heap[b]?:=fun b d=>by rw[<-e];exact(dG _ ⟨N+1+1,2,dE⟩ _ _ d).trans ((dG _ ⟨N+1+1,1,dE⟩ _ _ d).trans (dG _ ⟨N+1+1,0,dE⟩ _ _ d))
  have A:Wf.heap.size=z.heap.size:=by rw[<-e];simp
  have r:dN w.heap.size w Wf:=by rw[<-e];exact iT (iT (iT V oM) oM) oM
  have B:=gF (gK R (gK r (gK u A)));have aa:=gF e;clear R r u A e M G V E;go_wp2;rw[aa.o];have ab:=B.o.1.cell;refine ek (v:= hE #[ht dE 0 0, ht o 2 c, gE ha 0]) (by simp[eP,eE,go_sem,ab]) rfl ?_;rw[<-al.o,U.o];obtain⟨-,r,u,A⟩:=B.o;refine⟨r,dE,0,o,c,by simp[il,kt,Nd.ps,Nd.gC,Nd.page,C.o],?_⟩;have:=jf.of (S:=fun b=>S b\/(w.heap.size<=b/\b<Wf.heap.size)) (w:=Wf) (po:=dE) (pc:=0) (ps:=[]) (ko:=o) (kc:=c) (gC:=l) 0 (.inl ⟨rfl,rfl,rfl⟩) (gO.nil _ _ _) (by rw[C.o];exact ak.o.2) ((ak.o.1.same fun b d=>u b (aA b d)).up fun b d=>d.imp id fun h=>⟨oM,oM⟩);exact this
 obtain rfl:m=1:=oM
 obtain⟨av,aC⟩:=ao.o;have U:Hid (ku (dF n) (L,O)=l[0]):=gF (by rw[aC,if_neg (by rw[C.o];decide)]);obtain⟨au,aY,J,c1,I,D,rfl,aL,ap,aq,ar,hK⟩:=X.get av;simp only[Nat.zero_mul,Nat.add_zero] at ap aq ar;have aS:au<z.heap.size:=by rcases aL with h|h;have:=Y au h;omega;exact h.2
 have aU:=(ox ah).1;obtain⟨g,aB⟩:=nM (l[0]);rw[aB] at U ap aq ar hK;have aH:=gF hK;clear X hK aC aB;obtain⟨Wf,e⟩:=nM (((z.setCell ⟨N+1+1,0,dE⟩ (ht J g.ps.length c1)).setCell ⟨N+1+1,1,dE⟩ (ht I g.gC.length D)).setCell ⟨N+1+1,2,dE⟩ (gE ha g.page));have R:Bx Wf (N+1+1) #[ht J g.ps.length c1, ht I g.gC.length D, gE ha g.page] 95:=by rw[<-e];have:=((M.set 0 (ht J g.ps.length c1)).set 1 (ht I g.gC.length D)).set 2 (gE ha g.page);simpa using this
 have u: ∀b,b≠N+1+1->Wf.heap[b]?=z.heap[b]?:=fun b d=>by rw[<-e];exact(dG _ ⟨N+1+1,2,dE⟩ _ _ d).trans ((dG _ ⟨N+1+1,1,dE⟩ _ _ d).trans (dG _ ⟨N+1+1,0,dE⟩ _ _ d))
 have A:Wf.heap.size=z.heap.size:=by rw[<-e];simp
 have r:dN w.heap.size w Wf:=by rw[<-e];exact iT (iT (iT V oM) oM) oM
 have B:=gF (gK R (gK r (gK u A)));have aa:=gF e;clear R r u A e M G V E;go_wp2;rw[aa.o];have ab:=B.o.1.cell;refine ek (v:= hE #[ht J g.ps.length c1, ht I g.gC.length D, gE ha g.page]) (by simp[eP,eE,go_sem,ab]) rfl ?_;rw[<-al.o,U.o];obtain⟨-,r,u,A⟩:=B.o;exact⟨r,J,c1,I,D,rfl,(aH.o.same (T:=fun b=>S b\/(w.heap.size<=b/\b<Wf.heap.size)) (fun b d=>u b (aA b d)) fun b d=>d.imp id fun h=>⟨oM,oM⟩)⟩
def tJ (an:kg) (ξ:iz) (j:Nat) (w:dH):Prop:= ∀A r,an j=dF A->ξ j=dF r->A.Φ r w
theorem Gj {an:kg} {ξ:iz} {i:Nat} {ρ:Option Rec} (h:j≠i):tJ an (nU ξ i ρ) j w↔tJ an ξ j w:=by
 cases ρ with
 | none=>exact Iff.rfl
 | some d=>unfold tJ nU;simp only[if_neg h]
section
variable {P:eu} {ops:Array Oper} {md:dM} {W0:dH} {an:kg} {sp:Nat->List Nat}
def wF (md:dM) (ops:Array Oper) (sp:Nat->List Nat) (i j:Nat):Bool:=mH md ops i j&&(sp j).all fun k=>k==i||mH md ops k i
def iE (md:dM) (ops:Array Oper) (sp:Nat->List Nat) (i j:Nat):Bool:= !(j==i)&& !(mH md ops j i)&& !((sp j).any fun k=>k==i||mH md ops i k)
def tK (md:dM) (ops:Array Oper) (sp:Nat->List Nat) (an:kg) (W0:dH) (i:Nat) (A:mS) (w:dH) (v:dL) (w':dH):Prop:=
 dN W0.heap.size w w'/\ ∃x,v=A.f ⟨x,w.heap.size,w'.heap.size⟩/\A.Φ ⟨x,w.heap.size,w'.heap.size⟩ w'/\ ∀j B s,iE md ops sp i j=dI->an j=dF B->B.Φ s w->B.Φ s w'
def Nu (P:eu) (ops:Array Oper) (md:dM) (sp:Nat->List Nat) (an:kg) (W0:dH) (i:Nat) (o:Oper) (A:mS) (ξ:iz) (a:Act):Prop:=
 ∀w,dN W0.heap.size W0 w->(∀j,wF md ops sp i j=dI->tJ an ξ j w)->ix P o a w (tK md ops sp an W0 i A w)
inductive k8 (P:eu) (ops:Array Oper) (md:dM) (sp:Nat->List Nat) (an:kg) (W0:dH) (i:Nat) (o:Oper) (ξ:iz) (a:Act):(Option Rec->dL->Prop)->Prop
 | skip (hw:dX o (eF ops a.tmps)=dO):k8 P ops md sp an W0 i o ξ a (fun ρ v=>ρ=dE/\v=eL)
 | quiet (v:dL) (hw:dX o (eF ops a.tmps)=dI) (hn:an i=dE) (hr: ∀w,ri W0 w->(eS a.eval o).run P w= .ok (.value v) w):k8 P ops md sp an W0 i o ξ a (fun ρ u=>ρ=dE/\u=v)
 | mC (A:mS) (hw:dX o (eF ops a.tmps)=dI) (hn:an i=dF A) (hl:Nu P ops md sp an W0 i o A ξ a):k8 P ops md sp an W0 i o ξ a (fun ρ u=> ∃r,ρ=dF r/\u=A.f r)
theorem k8.some {i:Nat} {o:Oper} {ξ:iz} {a:Act} {S:Option Rec->dL->Prop} (h:k8 P ops md sp an W0 i o ξ a S): ∃ρ v,S ρ v:=by
 cases h;exact⟨_,_,rfl,rfl⟩;exact⟨_,_,rfl,rfl⟩;exact⟨_,_,⟨fun _=>eL,0,0⟩,rfl,rfl⟩
theorem k8.uniq {i:Nat} {o:Oper} {ξ:iz} {a:Act} {S S':Option Rec->dL->Prop} (h:k8 P ops md sp an W0 i o ξ a S) (u:k8 P ops md sp an W0 i o ξ a S'):S=S':=by
 cases h with
 | skip g=>cases u with
  | skip=>rfl
  | quiet _ d=>rw[g] at d;cases d
  | mC _ d=>rw[g] at d;cases d
 | quiet v g r A=>cases u with
  | skip d=>rw[g] at d;cases d
  | quiet F _ _ B=>
   have z:=(A W0 (yP W0)).symm.trans (B W0 (yP W0));injection z with e1 e2
   injection e1 with e3
   rw[e3]
  | mC _ _ e=>rw[r] at e;cases e
 | mC C g r E=>cases u with
  | skip d=>rw[g] at d;cases d
  | quiet _ _ e=>rw[r] at e;cases e
  | mC D _ e=>rw[r] at e;cases e;rfl
theorem k8.apart {i:Nat} {oi:Oper} {ξ ξ':iz} {a a':Act} {S:Option Rec->dL->Prop} (u:eS a'.eval oi=eS a.eval oi) (r:dX oi (eF ops a'.tmps)=dX oi (eF ops a.tmps))
  (B: ∀k w,mH md ops i k=dI->(tJ an ξ' k w->tJ an ξ k w)) (h:k8 P ops md sp an W0 i oi ξ a S):k8 P ops md sp an W0 i oi ξ' a' S:=by
 cases h with
 | skip d=>exact .skip (r▸d)
 | quiet v d g e=>exact .quiet v (r▸d) g (by rw[u];exact e)
 | mC z d g D=>refine .mC z (r▸d) g fun w A C=>?_;have:=D w A fun k e=>B k w (Bool.and_eq_true_iff.1 e).1 (C k e);unfold ix at this |-;rw[u];exact this
def tL (P:eu) (ops:Array Oper) (md:dM) (sp:Nat->List Nat) (an:kg) (W0:dH) (i:Nat) (o:Oper) (ξ:iz) (a:Act) (K:iz->Act->Prop):Prop:=
 ∃S,k8 P ops md sp an W0 i o ξ a S/\ ∀ρ v,S ρ v->K (nU ξ i ρ) (a.put o.dst v)
theorem tL.mono {i:Nat} {o:Oper} {ξ:iz} {a:Act} {K K':iz->Act->Prop} (h:tL P ops md sp an W0 i o ξ a K) (hK: ∀ξ a,K ξ a->K' ξ a):tL P ops md sp an W0 i o ξ a K':=by
 obtain⟨S,d,e⟩:=h;exact⟨S,d,fun ρ v hs=>hK _ _ (e ρ v hs)⟩
theorem tL.swap {i j:Nat} {oi d:Oper} {ξ:iz} {a:Act} {S:Option Rec->dL->Prop} {K:iz->Act->Prop} (H:i≠j) (G:oi.apart ops d=dI)
  (M: ∀cs b,oi.op≠ .select cs b) (O: ∀cs b,d.op≠ .select cs b) (I:mH md ops i j=dO) (J:mH md ops j i=dO)
  (D:k8 P ops md sp an W0 i oi ξ a S) (h: ∀ρ v,S ρ v->tL P ops md sp an W0 j d (nU ξ i ρ) (a.put oi.dst v) K):
  tL P ops md sp an W0 j d ξ a (fun ξ' a'=>k8 P ops md sp an W0 i oi ξ' a' S/\ ∀ρ v,S ρ v->K (nU ξ' i ρ) (a'.put oi.dst v)):=by
 obtain⟨B,E,C⟩:=Oper.apart_spec G;have r: ∀ρ v T,k8 P ops md sp an W0 j d (nU ξ i ρ) (a.put oi.dst v) T->k8 P ops md sp an W0 j d ξ a T:=fun ρ v T g=>
  k8.apart (execOp_put d O a oi.dst v B).symm (wanted_put d a oi.dst v B).symm (fun k w e A=>(Gj fun z=>by subst z;rw[J] at e;cases e).2 A) g
 obtain⟨ρ0,v0,L⟩:=D.some;obtain⟨T,g,_⟩:=h ρ0 v0 L;refine⟨T,r _ _ _ g,fun σ u hu=>⟨?_,fun ρ v hs=>?_⟩⟩;exact k8.apart (execOp_put oi M a d.dst u C) (wanted_put oi a d.dst u C) (fun k w e A=>(Gj fun z=>by subst z;rw[I] at e;cases e).1 A) D;obtain⟨R,F,hK⟩:=h ρ v hs;have:=(r _ _ _ F).uniq (r _ _ _ g);subst this;have:=hK σ u hu;rw[Dp H,Act.put_comm a v u E] at this;exact this
def yh (P:eu) (ops:Array Oper) (md:dM) (sp:Nat->List Nat) (an:kg) (W0:dH) (n:Nat) (L:Array Bool->iz->Act->Prop):Nat->Array Bool->iz->Act->Prop
 | 0,listed,ξ,a=>L listed ξ a
 | f+1,listed,ξ,a=>dT md ops listed≠[]/\ ∀i∈dT md ops listed,i<n/\ ∀o,ops[i]?=dF o->tL P ops md sp an W0 i o ξ a (yh P ops md sp an W0 n L f (listed.setIfInBounds i dI))
theorem Nv {n i:Nat} {oi:Oper} {S:Option Rec->dL->Prop} {L:Array Bool->iz->Act->Prop} (I:ops[i]?=dF oi) (O: ∀(j:Nat) (o:Oper) cs b,ops[j]?=dF o->o.op≠ .select cs b)
  (C:xx md ops n=dI) (aa:i<n) (V: ∀listed ξ a,L listed ξ a-> ∀j∈dT md ops listed,n<=j):
  ∀(f:Nat) (listed:Array Bool) (ξ:iz) (a:Act),j2 md ops n listed->
   (∀j oj,ops[j]?=dF oj->j≠i->listed.getD j dI=dO->(∀e∈oj.after,eM md e=dI->e.on≠i)->oi.apart ops oj=dI)->
   i∈dT md ops listed->k8 P ops md sp an W0 i oi ξ a S->
   (∀ρ v,S ρ v->yh P ops md sp an W0 n L f (listed.setIfInBounds i dI) (nU ξ i ρ) (a.put oi.dst v))->yh P ops md sp an W0 n L (f+1) listed ξ a:=by
 intro f;have G: ∀(listed:Array Bool),j2 md ops n listed->i∈dT md ops listed-> ∀j∈dT md ops listed,j<n:=by
  intro listed B g j r;rcases Nat.lt_or_ge j n with h|h;exact h;exfalso;have ad:j<ops.size:=by obtain⟨_,oj,A,_⟩:=eA.1 r;exact(eJ.1 A).1
  have z:=dR.1 C j (eh.2 ad);simp only[Bool.or_eq_true,decide_eq_true_eq] at z;rcases z with z|z;omega;rcases r4 r B.closed (dR.1 z i (eh.2 aa)) with d|d;omega;rw[en (eA.1 g).1] at d;cases d
 induction f with
 | zero=>
  intro listed ξ a B _ g hy H;refine⟨fun h=>(by rw[h] at g;cases g),fun j r=>⟨G listed B g j r,fun oj A=>?_⟩⟩
  by_cases u:j=i
  subst u;obtain rfl:oj=oi:=ej (A.symm.trans I);exact⟨S,hy,H⟩;obtain⟨ρ,v,C⟩:=hy.some;have:=V _ _ _ (H ρ v C) j (ready_mono r u);have:=G listed B g j r;omega
 | succ f aj=>
  intro listed ξ a B nb g hy H;refine⟨fun h=>(by rw[h] at g;cases g),fun j r=>⟨G listed B g j r,fun oj A=>?_⟩⟩
  by_cases u:j=i
  subst u;obtain rfl:oj=oi:=ej (A.symm.trans I);exact⟨S,hy,H⟩;obtain⟨J,E,ag,R⟩:=eA.1 r;obtain rfl:E=oj:=ej (ag.symm.trans A);have D:=(eA.1 g).1;have af: ∀e∈E.after,eM md e=dI->e.on≠i:=fun e X U Y=>by have z:=R e X U;rw[Y,en D] at z;cases z
  have ah:mH md ops i j=false:=by
   cases h:mH md ops i j with
   | false=>rfl
   | true=>rcases r4 g B.closed h with d|d;exact absurd d u;rw[en J] at d;cases d
  have ai:mH md ops j i=false:=by
   cases h:mH md ops j i with
   | false=>rfl
   | true=>rcases r4 r B.closed h with d|d;exact absurd d.symm u;rw[en D] at d;cases d
  have Z: ∀k F,ops[k]?=dF F->k≠i->(listed.setIfInBounds j dI).getD k dI=dO->
    (∀e∈F.after,eM md e=dI->e.on≠i)->oi.apart ops F=true:=fun k F ab ac D ae=>by
   refine nb k F ab ac ?_ ae
   by_cases M:j=k
   . subst M;exact J
   . rw[getD_set_ne dI M] at D;exact D
  refine(tL.swap (Ne.symm u) (nb j E A u J af) (fun cs b=>O i oi cs b I) (fun cs b=>O j E cs b A) ah ai hy fun ρ v C=>((H ρ v C).2 j (ready_mono r u)).2 E A).mono ?_;rintro ξ' a' ⟨z,d⟩;refine aj (listed.setIfInBounds j dI) ξ' a' (B.set r) Z (ready_mono g (Ne.symm u)) z fun ρ v C=>?_;rw[Array.setIfInBounds_comm _ _ u];exact d ρ v C
structure lZ (md:dM) (ops:Array Oper) (sp:Nat->List Nat) (an:kg) (W0:dH) (ξ:iz) (listed:Array Bool) (w:dH):Prop where
 below:dN W0.heap.size W0 w
 fact: ∀j,(∀k∈sp j,listed.getD k dO=dO)->tJ an ξ j w
 here: ∀j r,ξ j=dF r->listed.getD j dO=dI
theorem Nw {l:Array Bool} {i:Nat} (h:l.getD i dI=dO):(l.setIfInBounds i dI).getD i dO=true:=by
 have e:i<l.size:=by rcases Nat.lt_or_ge i l.size with d|d;exact d;simp[Array.getD,Nat.not_lt.2 d] at h
 simp[Array.getD,e]
theorem lZ.quiet {ξ:iz} {listed:Array Bool} {w:dH} {i:Nat} (h:lZ md ops sp an W0 ξ listed w):lZ md ops sp an W0 ξ (listed.setIfInBounds i dI) w:=
 ⟨h.below,fun j e=>h.fact j fun k g=>(by
  cases d:listed.getD k dO with
  | false=>rfl
  | true=>have:=ev (i:=i) d;rw[e k g] at this;cases this),fun j u r=>ev (h.here j u r)⟩
theorem lZ.add {n:Nat} {ξ:iz} {listed:Array Bool} {w w':dH} {i:Nat} {H:mS} {r:Rec} (G:j2 md ops n listed) (J:i∈dT md ops listed) (h:lZ md ops sp an W0 ξ listed w) (D:dN W0.heap.size w w') (U:an i=dF H) (aa:H.Φ r w')
  (V: ∀j B s,iE md ops sp i j=dI->an j=dF B->B.Φ s w->B.Φ s w'):lZ md ops sp an W0 (nU ξ i (dF r)) (listed.setIfInBounds i dI) w':=by
 have O:=(eA.1 J).1;have F:=Nw O;have I: ∀j s,nU ξ i (dF r) j=dF s->(j=i/\s=r)\/(j≠i/\ξ j=dF s):=by
  intro j s u;unfold nU at u
  by_cases d:j=i
  left;simp only[if_pos d] at u;exact⟨d,(ej u).symm⟩
  right;simp only[if_neg d] at u;exact⟨d,u⟩
 refine⟨h.below.trans D,?_,?_⟩;intro j A B s z e;rcases I j s e with⟨rfl,rfl⟩|⟨L,e⟩;rw[U] at z;cases z;exact aa;have X: ∀k∈sp j,listed.getD k dO=false:=fun k E=>by
  cases g:listed.getD k dO with
  | false=>rfl
  | true=>have:=ev (i:=i) g;rw[A k E] at this;cases this
 refine V j B s ?_ z (h.fact j X B s z e);have Z:=h.here j s e;unfold iE;have C:mH md ops j i=false:=by
  cases g:mH md ops j i with
  | false=>rfl
  | true=>have:=yO (md:=md) (ops:=ops) (t:=j) (listed:=listed) (fun k ot C ⟨d,he,D,xw⟩=>by rw[<-xw];exact G.closed j ot C Z d he D) G.closed 8 [j] (fun k A=> .inl (by simpa using A)) i (by simpa[mH] using g);rcases this with d|d;exact absurd d.symm L;rw[en O] at d;cases d
 have R:(sp j).any (fun k=>k==i||mH md ops i k)=false:=by
  cases g:(sp j).any (fun k=>k==i||mH md ops i k) with
  | false=>rfl
  | true=>
   obtain⟨k,E,Y⟩:=List.any_eq_true.1 g;have M:(listed.setIfInBounds i dI).getD k dO=true:=by
    rcases Bool.or_eq_true_iff.1 Y with d|d;obtain rfl:k=i:=by simpa using d
    exact F;rcases r4 J G.closed d with rfl|d;exact F;exact ev d
   rw[A k E] at M;cases M
 simp[L,C];simpa using R;intro j s e;rcases I j s e with⟨rfl,rfl⟩|⟨_,e⟩;exact F;exact ev (h.here j s e)
theorem lZ.start (listed:Array Bool) {W0 w:dH} (h:dN W0.heap.size W0 w):lZ md ops sp an W0 (fun _=>dE) listed w:=
 ⟨h,(fun _ _ _ _ _ h=>by cases h),fun _ _ h=>by cases h⟩
theorem z7 {n g:Nat} {L:Array Bool->iz->Act->Prop} {Q':Exit->Act->dH->Prop} (A: ∀listed ξ a w,L listed ξ a->lZ md ops sp an W0 ξ listed w->wpAny P md ops Q' g listed a w):
  ∀(f:Nat) (listed:Array Bool) (ξ:iz) (a:Act) (w:dH),j2 md ops n listed->yh P ops md sp an W0 n L f listed ξ a->lZ md ops sp an W0 ξ listed w->wpAny P md ops Q' (f+g) listed a w
 | 0,listed,ξ,a,w,_,h,hg=>by rw[ec];exact A _ _ _ _ h hg
 | f+1,listed,ξ,a,w,inv,h,hg=>by
  rw[show f+1+g=(f+g)+1 by omega];refine⟨fun H=>absurd H h.1,fun i e=>?_⟩;obtain⟨E,oi,G,X⟩:=eA.1 e;obtain⟨S,I,hK⟩:=(h.2 i e).2 oi G;unfold wpOp;simp only[G];cases I with
  | skip z=>rw[if_neg (by rw[z];exact Bool.false_ne_true)];exact z7 A f _ _ _ _ (inv.set e) (hK dE eL ⟨rfl,rfl⟩) hg.quiet
  | quiet v z F O=>rw[if_pos z];left;unfold Oper.wp;rw[O w ⟨⟨w,hg.below⟩,rfl⟩];exact z7 A f _ _ _ _ (inv.set e) (hK dE v ⟨rfl,rfl⟩) hg.quiet
  | mC V z F M=>
   rw[if_pos z];left;refine AJ (M w hg.below fun j C=>hg.fact j fun k D=>?_) ?_;.
    have r:k=i\/mH md ops k i=true:=by unfold wF at C;rw[ep] at C;simpa using dR.1 C.2 k D
    cases u:listed.getD k dO with
    | false=>rfl
    | true=>rcases r with rfl|r;rw[en E] at u;cases u;have:=yO (md:=md) (ops:=ops) (t:=k) (listed:=listed) (fun U ot r ⟨d,he,B,xw⟩=>by rw[<-xw];exact inv.closed k ot r u d he B) inv.closed 8 [k] (fun U D=> .inl (by simpa using D)) i (by simpa[mH] using r);rcases this with d|d;subst d;rw[en E] at u;cases u;rw[en E] at d;cases d
   rintro v w' ⟨B,x,rfl,R,J⟩;exact z7 A f _ _ _ _ (inv.set e) (hK _ _ ⟨_,rfl,rfl⟩) (hg.add inv e B F R J)
def l4 (P:eu) (ops:Array Oper) (md:dM) (sp:Nat->List Nat) (an:kg) (W0:dH) (Q:iz->Act->Prop):List Oper->Nat->iz->Act->Prop
 | [],_,ξ,a=>Q ξ a
 | o::r,k,ξ,a=>tL P ops md sp an W0 k o ξ a (l4 P ops md sp an W0 Q r (k+1))
theorem Gk {n:Nat} {e:iz->Act->Prop} (A:Region.noSelect ops=dI) (z:xx md ops n=dI) (done:Array Bool) (r:(dT md ops done).all (fun j=>decide (n<=j))=dI):
  ∀(l:List Oper) (k:Nat) (listed:Array Bool) (ξ:iz) (a:Act),(∀j,j<l.length->l[j]?=ops[k+j]?)->k+l.length=n->j2 md ops n listed->lr listed l.length k=done->
  rI md ops n l.length k listed=dI->l4 P ops md sp an W0 e l k ξ a->yh P ops md sp an W0 n (fun B ξ' a'=>B=done/\e ξ' a') l.length listed ξ a
 | [],k,listed,ξ,a,_,_,_,hd,_,h=>⟨hd,h⟩
 | o::l,k,listed,ξ,a,hl,hk,inv,hd,hB,h=>by
  have g:ops[k]?=dF o:=by simpa using (hl 0 oC).symm
  simp only[j1,rI,ep] at hB;obtain⟨⟨H,F⟩,C⟩:=hB;have G:k<n:=by simp only[j1] at hk;omega
  have u:k∈dT md ops listed:=by simpa using H
  obtain⟨S,E,hK⟩:=h;refine Nv g (Region.noSelect_spec A) z G (fun B _ a' D j d=>?_) l.length listed ξ a inv (Region.free_spec g F) u E fun ρ v hs'=>?_;rw[D.1] at d;exact of_decide_eq_true (dR.1 r j d);exact Gk A z done r l (k+1) _ _ _ (fun j d=>by have:=hl (j+1) oN;simpa[Nat.add_assoc,Nat.add_comm 1 j] using this) (by simp only[j1] at hk;omega) (inv.set u) (by simpa[lr] using hd) C (hK ρ v hs')
theorem Nx {id:Nat} {Q:Exit->Act->dH->Prop} {a:Act} {w:dH} {l:List Oper} (n:Nat) (sp:Nat->List Nat) (an:kg) (E:P.follows .mixedOrders=dI) (I:n<=l.length) (r:p4 .any l.toArray n=dI)
  (h:l4 P l.toArray .any sp an w (fun ξ a'=> ∀w',lZ .any l.toArray sp an w ξ (lr (ed l.length dO) n 0) w'->wpAny P .any l.toArray Q (l.length - n) (lr (ed l.length dO) n 0) a' w') (l.take n) 0 (fun _=>dE) a):(Code.region id l.toArray dI).wp P Q a w:=by
 simp only[p4,ep] at r;obtain⟨⟨G,F⟩,A⟩:=r;have d:(l.take n).length=n:=oN
 have B:j2 .any l.toArray n (ed l.toArray.size dO):=⟨oC,fun j J _ z=>(by rw[getD_replicate_false] at z;cases z)⟩;have C:=xz _ _ _ A;have e:=Gk (md:= .any) G F _ C (l.take n) 0 _ _ a (fun j u=>by
  have D:j<n:=by rw[d] at u;exact u
  simp[D]) (by simpa using d) B (by rw[d]) (by rw[d];exact A) h
 refine wp_region_any E ?_;simp only[List.size_toArray] at e;have H:j2 .any l.toArray n (ed l.length dO):=by simpa using B
 have:=z7 (g:=l.length - n) (Q':=Q) (fun listed ξ a' w' hL hg=>by rw[hL.1] at hg |-;exact hL.2 w' hg) _ _ _ _ { w with drawn:=w.drawn+1 } H e (lZ.start _ ((et _ w).drew))
 rw[d] at this;simpa[show n+(l.length - n)=l.length by omega] using this
theorem Ch {id:Nat} {Q:Exit->Act->dH->Prop} {a:Act} {w:dH} {l:List Oper} (n g:Nat) (done:Array Bool) (sp:Nat->List Nat) (an:kg) (r:P.follows .mixedOrders=dI) (u:l.length=n+g) (e:lr (ed l.length dO) n 0=done) (d:p4 .any l.toArray n=dI)
  (h:l4 P l.toArray .any sp an w (fun ξ a'=> ∀w',lZ .any l.toArray sp an w ξ done w'->wpAny P .any l.toArray Q g done a' w') (l.take n) 0 (fun _=>dE) a):(Code.region id l.toArray dI).wp P Q a w:=by
 refine Nx n sp an r oM d ?_;rw[e,show l.length - n=g by omega];exact h
theorem Gl {W0:dH} {Q:iz->Act->Prop}: ∀(d rest:List Oper) (k:Nat) (ξ:iz) (a:Act),d.all (fun o=>rh o.op)=dI->(eW d.length).all (fun i=>(an (k+i)).isNone)=dI->
  wpQuiet P ops (ri W0) (fun a'=>l4 P ops md sp an W0 Q rest (k+d.length) ξ a') d a->l4 P ops md sp an W0 Q (d++rest) k ξ a
 | [],rest,k,ξ,a,_,_,h=>h
 | o::d,rest,k,ξ,a,hv,hn,h=>by
  simp only[List.all_cons,ep] at hv;have E:an k=none:=by have:=dR.1 hn 0 (eh.2 oC);simpa using this
  have D:(eW d.length).all (fun i=>(an (k+1+i)).isNone)=true:=dR.2 fun i C=>by have:=dR.1 hn (i+1) (eh.2 (by have:=eh.1 C;simp;omega));rwa[show k+(i+1)=k+1+i by omega] at this
  have next: ∀a',wpQuiet P ops (ri W0) (fun u=>l4 P ops md sp an W0 Q rest (k+(d.length+1)) ξ u) d a'->l4 P ops md sp an W0 Q (d++rest) (k+1) ξ a':=fun a' G=>
   Gl d rest (k+1) ξ a' hv.2 D (by rwa[show k+1+d.length=k+(d.length+1) by omega])
  unfold wpQuiet at h;show tL P ops md sp an W0 k o ξ a (l4 P ops md sp an W0 Q (d++rest) (k+1))
  by_cases e:dX o (eF ops a.tmps)=dI
  .
   rw[if_pos e] at h;obtain⟨v,z,A⟩:=h;refine⟨_, .quiet v e E fun w B=>?_,?_⟩;.
    have:=z w B;unfold Oper.quietAt at this;generalize F:(eS a.eval o).run P w=r at this;cases r with
    | ok n w'=>obtain⟨g,rfl⟩:=Ds hv.1 F;obtain⟨rfl,rfl⟩:=this;rfl
    | halt x w'=>exact this.elim
   rintro ρ g ⟨rfl,rfl⟩;exact next _ A
  rw[if_neg e] at h;refine⟨_, .skip (by simpa using e),?_⟩;rintro ρ g ⟨rfl,rfl⟩;exact next _ h
theorem l4.block {W0:dH} {Q:iz->Act->Prop} {l:List Oper} {k:Nat} {ξ:iz} {a:Act} (m d:Nat) (e:k+(l.take m).length=d) (r:(l.take m).all (fun o=>rh o.op)=dI) (g:(eW (l.take m).length).all (fun i=>(an (k+i)).isNone)=dI)
  (h:wpQuiet P ops (fun w=> ∃y:jv W0,w=y.w) (fun a'=>l4 P ops md sp an W0 Q (l.drop m) d ξ a') (l.take m) a):l4 P ops md sp an W0 Q l k ξ a:=by
 subst e;have:=Gl (l.take m) (l.drop m) k ξ a r g h;rwa[eT] at this
theorem l4.mC {W0:dH} {Q:iz->Act->Prop} {o:Oper} {rest:List Oper} {k:Nat} {ξ:iz} {a:Act} (d:mS) (A:dX o (eF ops a.tmps)=dI) (e:an k=dF d)
  (z: ∀y:jv W0,(∀j,wF md ops sp k j=dI->tJ an ξ j y.w)->ix P o a y.w (tK md ops sp an W0 k d y.w)) (h: ∀r:Rec,l4 P ops md sp an W0 Q rest (k+1) (nU ξ k (dF r)) (a.put o.dst (d.f r))):l4 P ops md sp an W0 Q (o::rest) k ξ a:=by
 refine⟨_, .mC d A e fun w g u=>z ⟨w,g⟩ u,?_⟩;rintro ρ B ⟨r,rfl,rfl⟩;exact h r
theorem l4.done {W0:dH} {Q:iz->Act->Prop} {k:Nat} {ξ:iz} {a:Act} (h:Q ξ a):l4 P ops md sp an W0 Q [] k ξ a:=h
theorem tJ.get {ξ:iz} {j:Nat} {w:dH} {d:mS} {r:Rec} (h:tJ an ξ j w) (e:an j=dF d) (g:ξ j=dF r):d.Φ r w:=h d r e g
theorem lZ.get {W0:dH} {ξ:iz} {listed:Array Bool} {w:dH} (h:lZ md ops sp an W0 ξ listed w) (j:Nat) {d:mS} {r:Rec} (g:(sp j).all (fun k=> !listed.getD k dO)=dI) (e:an j=dF d) (z:ξ j=dF r):d.Φ r w:=
 (h.fact j fun k u=>by simpa using dR.1 g k u).get e z
end
section
variable {P:eu} {ops:Array Oper} {md:dM} {sp:Nat->List Nat} {an:kg} {W0:dH} {i:Nat} {o:Oper} {a:Act}
def kf (B:Nat) (t:dU) (z n:Nat) (xs:List dL):mS:=⟨fun r=> ht (jK (r.x 0)) n (j3 (r.x 0)),fun r W=>W.ownsRow B t z (ht (jK (r.x 0)) n (j3 (r.x 0))) n xs⟩
theorem Gm {t:dU} {z:Nat} (y:jv W0) (d: ∀j B s,iE md ops sp i j=dI->an j=dF B->B.Φ s y.w->B.Φ s (y.w.alloc (hF #[] t))):
  tK md ops sp an W0 i (kf W0.heap.size t z 0 []) y.w (ht (dF ⟨y.w.heap.size,0,dE⟩) 0 0) (y.w.alloc (hF #[] t)):=
 ⟨(et _ _).alloc y.h.size _,fun _=> ht (dF ⟨y.w.heap.size,0,dE⟩) 0 0,rfl,tu _ _ _ _ _ rfl y.h.size,d⟩
theorem Ci (s x:eQ) (t:dU)
  (O:o.op=Op.call { callee:=eb ea,args:=#[s,x],argTypes:=#[t,t] })
  (e:dU) (r:eG) (H:dL) (d F:Nat) (U:P.underlying t=dF (.slice e)) (L:P.info? e=dF r) (ai:r.zero=dF H)
  (ag:r.size=d) (aa:r.bytes=F) (aj:H.cells.size=d) (ah:0<d) (y:jv W0)
  (v:dL) (n:Nat) (u:List dL) (R:a.eval s=v) (D:y.w.ownsRow W0.heap.size e d v n u)
  (A:Option Addr) (m c:Nat) (g:List dL) (V:a.eval x= ht A m c) (ad:A=dE->m=0/\c=0) (M:g.length=m * d) {S:Nat->Prop} (G:gO S y.w A g) (Y: ∀al∈g,al.oneCell'=dI)
  (Z:n+m<=dV) (ab:(n+m) * F<=140737488355328)
  (ac: ∀w',y.w.grownBy w' v.ownBlock-> ∀j E s,iE md ops sp i j=dI->an j=dF E->E.Φ s y.w->E.Φ s w'):ix P o a y.w (tK md ops sp an W0 i (kf W0.heap.size e d (n+m) (u++g)) y.w):=by
 have J: ∀z w',w'.ownsRow W0.heap.size e d z (n+m) (u++g)->y.w.grownBy w' v.ownBlock->tK md ops sp an W0 i (kf W0.heap.size e d (n+m) (u++g)) y.w z w':=fun z w' B C=>by obtain⟨ak,X,rfl⟩:=pD B;exact⟨Below.jq (et _ _) D C y.h.size,fun _=> ht ak (n+m) X,rfl,B,ac w' C⟩
 unfold ix;cases A with
 | some I=>obtain⟨z,w',ae,B,C,_,am⟩:=run_append_own_at (P:=P) y.w W0.heap.size t o.type e r H d F U L ai ag aa aj ah v n u D I m c g M (G.src I rfl) Y Z ab y.h.size;unfold eS;simp only[O,resolve,invoke,builtin,Sem.run_bind,Sem.run_pure,Result.andThen_ok,List.map_toArray,List.map_cons,List.map_nil,R,V,ae];exact J z w' B C
 | none=>obtain⟨rfl,rfl⟩:=ad rfl;have G:g=[]:=eC (by simpa using M);subst G;have af:=run_append_owned_none (P:=P) y.w W0.heap.size t o.type e r d U L v n u D;simp[eS,O,resolve,invoke,builtin,R,V,af,Result.andThen];have:=J v _ (by simpa using D) (World.grownBy.refl _ _);simpa using this
theorem xr (s x:eQ) (t:dU)
  (R:o.op=Op.call { callee:=eb ea,args:=#[s,x],argTypes:=#[t,t] })
  (e:dU) (r:eG) (C:dL) (d A:Nat) (Z:P.underlying t=dF (.slice e)) (J:P.info? e=dF r) (ab:r.zero=dF C)
  (X:r.size=d) (G:r.bytes=A) (ac:C.cells.size=d) (Y:0<d) (y:jv W0)
  (v:dL) (n:Nat) (B:List dL) (V:a.eval s=v) (U:y.w.ownsRow W0.heap.size e d v n B)
  (u:Option Addr) (m c:Nat) (g:List dL) (aa:a.eval x= ht u m c) (O:u=dE->m=0/\c=0) (L:g.length=m * d) {S:Nat->Prop} (F: ∀b,S b->b<W0.heap.size) (M:gO S W0 u g) (D: ∀ad∈g,ad.oneCell'=dI)
  (E:n+m<=dV) (H:(n+m) * A<=140737488355328)
  (I: ∀w',y.w.grownBy w' v.ownBlock-> ∀j z s,iE md ops sp i j=dI->an j=dF z->z.Φ s y.w->z.Φ s w'):ix P o a y.w (tK md ops sp an W0 i (kf W0.heap.size e d (n+m) (B++g)) y.w):=
 Ci s x t R e r C d A Z J ab X G ac Y y v n B V U u m c g aa O L (M.same' fun b h=>y.h.block b (F b h)) D E H I
def yi (B:Nat) (t1 t2:dU) (n1 n2 m1 m2:Nat) (x1 x2 y1 y2:List dL):kg:=fun i=>
 if i=0 then dF (kf B t1 2 0 []) else if i=3 then dF (kf B t1 2 (0+n1) ([]++x1)) else if i=6 then dF (kf B t1 2 (0+n1+n2) ([]++x1++x2))
 else if i=7 then dF (kf B t2 3 0 []) else if i=10 then dF (kf B t2 3 (0+m1) ([]++y1)) else if i=13 then dF (kf B t2 3 (0+m1+m2) ([]++y1++y2)) else dE
def Ny:Nat->List Nat:=fun i=>if i=0 then [3] else if i=3 then [6] else if i=7 then [10] else if i=10 then [13] else []
theorem Cj {B:Nat} {F z:dU} {D E A C:Nat} {G H I J:List dL} (h:(iE md ops sp i 0||iE md ops sp i 3||iE md ops sp i 6)=dO) {w w':dH} (r: ∀v n xs,w.ownsRow B z 3 v n xs->w'.ownsRow B z 3 v n xs):
  ∀j g s,iE md ops sp i j=dI->yi B F z D E A C G H I J j=dF g->g.Φ s w->g.Φ s w':=by
 simp only[eU] at h;intro j g s e d u;unfold yi at d;split at d;subst j;rw[h.1.1] at e;cases e;split at d;subst j;rw[h.1.2] at e;cases e;split at d;subst j;rw[h.2] at e;cases e;split at d;cases d;exact r _ _ _ u;split at d;cases d;exact r _ _ _ u;split at d;cases d;exact r _ _ _ u;cases d
theorem Ck {B:Nat} {z F:dU} {D E A C:Nat} {G H I J:List dL} (h:(iE md ops sp i 7||iE md ops sp i 10||iE md ops sp i 13)=dO) {w w':dH} (r: ∀v n xs,w.ownsRow B z 2 v n xs->w'.ownsRow B z 2 v n xs):
  ∀j g s,iE md ops sp i j=dI->yi B z F D E A C G H I J j=dF g->g.Φ s w->g.Φ s w':=by
 simp only[eU] at h;intro j g s e d u;unfold yi at d;split at d;cases d;exact r _ _ _ u;split at d;cases d;exact r _ _ _ u;split at d;cases d;exact r _ _ _ u;split at d;subst j;rw[h.1.1] at e;cases e;split at d;subst j;rw[h.1.2] at e;cases e;split at d;subst j;rw[h.2] at e;cases e;cases d
theorem rT {w w':dH} {b b':Nat} {e d:dU} {m A:Nat} {v v':dL} {n B:Nat} {xs C:List dL} (k:w.ownsRow b' d A v' B C) (r:w.grownBy w' v'.ownBlock) (u:e≠d) (h:w.ownsRow b e m v n xs):w'.ownsRow b e m v n xs:=by
 refine h.kept r ?_;cases z:v.ownBlock with
 | none=>exact .inl rfl
 | some g=>exact .inr fun e=>zY h k u g z e.symm
end
structure wG (w W8 Wf:dH) (N:Nat) (v0 v1 v2:dL):Prop where
 box:Bx Wf N #[v0,v1,v2] 95
 below:dN w.heap.size w Wf
 same: ∀b,b≠N->Wf.heap[b]?=W8.heap[b]?
 size:Wf.heap.size=W8.heap.size
theorem mQ (x:Bx W8 N #[z0,z1,z2] 95) (v0 v1 v2:dL) (g:dN w.heap.size w W8) (d:w.heap.size<=N):
  wG w W8 (((W8.setCell ⟨N,0,dE⟩ v0).setCell ⟨N,1,dE⟩ v1).setCell ⟨N,2,dE⟩ v2) N v0 v1 v2:=
 ⟨by simpa using ((x.set 0 v0).set 1 v1).set 2 v2,iT (iT (iT g d) d) d,fun _ e=>
  (dG _ ⟨N,2,dE⟩ _ _ e).trans ((dG _ ⟨N,1,dE⟩ _ _ e).trans (dG _ ⟨N,0,dE⟩ _ _ e)),oC⟩
theorem Cl (a b:Nd) (po ko:Option Addr) (pc kc:Nat) (U O:Option Addr) (R M:Nat) (w:dH) (Z: ∀b,S b->b<w.heap.size) (aR:jf S w (il po pc ko kc a) a) (aS:jf S w (il U R O M b) b)
  (l1:a.ps.length<=1000) (l2:b.ps.length<=1000) (bA:a.gC.length<=1000) (bB:b.gC.length<=1000):
  ez dP 200 #[hE (il po pc ko kc a).toArray, hE (il U R O M b).toArray] w (lv S w (ig a b)):=by
 obtain⟨bg,a5,a6,a7,a8⟩:=info_parts wC;have E:=gF (gK a5 (gK a6 (gK a7 a8)));obtain⟨bf,a0,aM,bd,be⟩:=info_parts sy;have D:=gF (gK a0 (gK aM (gK bd be)));clear a5 a6 a7 a8 a0 aM bd be;obtain⟨aK,a9,aI,a3⟩:=aR.parts;obtain⟨aL,ba,aJ,a4⟩:=aS.parts;obtain⟨e,B⟩:=nM a.ps.length;obtain⟨d,F⟩:=nM a.gC.length;obtain⟨aC,aX⟩:=nM a.page;obtain⟨z,C⟩:=nM b.ps.length;obtain⟨u,G⟩:=nM b.gC.length;obtain⟨aD,aY⟩:=nM b.page;have aT:il po pc ko kc a=[ht po e pc, ht ko d kc, gE ha aC]:=by unfold il;rw[B,F,aX]
 have aU:il U R O M b=[ht U z R, ht O u M, gE ha aD]:=by unfold il;rw[C,G,aY]
 obtain⟨bG,aG⟩:=nM (lv S w (ig a b));rw[aT,aU,aG];obtain⟨N,al⟩:=nM w.heap.size;obtain⟨W0,am⟩:=nM (((w.alloc (hF #[ht po e pc, ht ko d kc, gE ha aC] 95)).alloc (hF #[ht U z R, ht O u M, gE ha aD] 95)).alloc (hF #[ht dE 0 0, ht dE 0 0, gE ha 0] 95));have J:dN w.heap.size w W0:=by subst am;exact((Below.one w _).alloc oC _).alloc oN _
 have bh:Bx W0 N #[ht po e pc, ht ko d kc, gE ha aC] 95:=by subst am al;exact((Bx.new w _ _).alloc _).alloc _
 have bi:Bx W0 (N+1) #[ht U z R, ht O u M, gE ha aD] 95:=by subst am al;exact(Bx.ir _ _ _ _ oC).alloc _
 have aO:Bx W0 (N+1+1) #[ht dE 0 0, ht dE 0 0, gE ha 0] 95:=by subst am al;exact Bx.ir _ _ _ _ oC
 have aV: ∀b,S b->b<W0.heap.size:=fun b h=>iU (Z b h) J.size;obtain⟨H,a1,a2,X⟩:=a3.keep Z J;obtain⟨ab,I,aQ,Y⟩:=a4.keep Z J;rw[B] at aK;rw[C] at aL;have aE:=gF (gK (a9.same' fun b h=>J.block b (Z b h)) (gK aK.nil (by rw[uJ,B]:(gV a.ps).length=e * 2)));have aF:=gF (gK (ba.same' fun b h=>J.block b (Z b h)) (gK aL.nil (by rw[uJ,C]:(gV b.ps).length=z * 2)));rw[F] at aI bA;rw[G] at aJ bB;rw[B] at l1;rw[C] at l2;have aj:=gF (gK a2 (gK aI.nil (gK (by rw[vr (s3 a1 X),a1,F]:H.flatten.length=d * 3) (wD a1 X))));have ak:=gF (gK aQ (gK aJ.nil (gK (by rw[vr (s3 I Y),I,G]:ab.flatten.length=u * 3) (wD I Y))));obtain⟨br,bC⟩:=bh.c2;obtain⟨bs,bD⟩:=bi.c2;have bE:=aO.lt;have bq:=jv.cells W0;have bn:=gF aG;have ah:=gF aV;have aP:=gF J;have bm:=gF (gK a1 (gK I (gK X Y)));have bl:=gF (gK B (gK C (gK F G)));have bp:=gF aO;clear aR aS aK a9 aI a3 aL ba aJ a4 B F aX C G aY aT aU aG bh bi aO J a1 a2 X I aQ Y aV;go_enter func200,ntmps200;go_upto_region 1 with fail
 refine Ch 14 2 #[dI,dI,dI,dI,dI,dI,dI,dI,dI,dI,dI,dI,dI,dI,dO,dO] Ny (yi W0.heap.size 77 95 e z d u (gV a.ps) (gV b.ps) H.flatten ab.flatten) oP oO oO oP ?_;simp only[ef,eg];refine l4.mC _ oO oO ?_ ?_;. intro g A;unfold ix;go_simp;exact Gm g (Cj oP fun v n ag h=>h.alloc _)
 intro ao;simp only[dY,gU,kf];refine l4.block 2 3 oO oP oP ?_;simp only[jC];repeat (go_big_quiet_step (fail))
 refine dS ?_;refine l4.mC _ oO oO ?_ ?_;intro g A;have r:g.w.ownsRow W0.heap.size 77 2 (.slice (jK (ao.x 0)) 0 (j3 (ao.x 0))) 0 ([]):=(A 0 oP).get rfl rfl;exact xr (.tmp 5) (.tmp 7) 41 rfl 77 bf _ 2 32 eX D.o.1 D.o.2.1 D.o.2.2.1 D.o.2.2.2 rfl oF g (.slice (jK (ao.x 0)) 0 (j3 (ao.x 0))) 0 ([]) rfl r po e pc (gV a.ps) rfl aE.o.2.1 aE.o.2.2 ah.o aE.o.1 (tT _) (by unfold dV;omega) oM fun w' L=>Cj oP fun v n ag h=>rT r L oF h;intro ar;simp only[dY,gU,kf];refine l4.block 2 6 oO oP oP ?_;simp only[jC];repeat (go_big_quiet_step (fail))
 refine dS ?_;refine l4.mC _ oO oO ?_ ?_;intro g A;have r:g.w.ownsRow W0.heap.size 77 2 (.slice (jK (ar.x 0)) (0+e) (j3 (ar.x 0))) (0+e) ([]++gV a.ps):=(A 3 oP).get rfl rfl;exact xr (.tmp 8) (.tmp 10) 41 rfl 77 bf _ 2 32 eX D.o.1 D.o.2.1 D.o.2.2.1 D.o.2.2.2 rfl oF g (.slice (jK (ar.x 0)) (0+e) (j3 (ar.x 0))) (0+e) ([]++gV a.ps) rfl r U z R (gV b.ps) rfl aF.o.2.1 aF.o.2.2 ah.o aF.o.1 (tT _) (by unfold dV;omega) oM fun w' L=>Cj oP fun v n ag h=>rT r L oF h;intro au;simp only[dY,gU,kf];refine l4.mC _ oO oO ?_ ?_;. intro g A;unfold ix;go_simp;exact Gm g (Ck oP fun v n ag h=>h.alloc _)
 intro av;simp only[dY,gU,kf];refine l4.block 2 10 oO oP oP ?_;simp only[jC];repeat (go_big_quiet_step (fail))
 refine dS ?_;refine l4.mC _ oO oO ?_ ?_;intro g A;have r:g.w.ownsRow W0.heap.size 95 3 (.slice (jK (av.x 0)) 0 (j3 (av.x 0))) 0 ([]):=(A 7 oP).get rfl rfl;exact xr (.tmp 12) (.tmp 14) 93 rfl 95 bg _ 3 56 dW E.o.1 E.o.2.1 E.o.2.2.1 E.o.2.2.2 rfl oF g (.slice (jK (av.x 0)) 0 (j3 (av.x 0))) 0 ([]) rfl r ko d kc H.flatten rfl aj.o.2.1 aj.o.2.2.1 ah.o aj.o.1 aj.o.2.2.2 (by unfold dV;omega) oM fun w' L=>Ck oP fun v n ag h=>rT r L oF h;intro ap;simp only[dY,gU,kf];refine l4.block 2 13 oO oP oP ?_;simp only[jC];repeat (go_big_quiet_step (fail))
 refine dS ?_;refine l4.mC _ oO oO ?_ ?_;intro g A;have r:g.w.ownsRow W0.heap.size 95 3 (.slice (jK (ap.x 0)) (0+d) (j3 (ap.x 0))) (0+d) ([]++H.flatten):=(A 10 oP).get rfl rfl;exact xr (.tmp 15) (.tmp 17) 93 rfl 95 bg _ 3 56 dW E.o.1 E.o.2.1 E.o.2.2.1 E.o.2.2.2 rfl oF g (.slice (jK (ap.x 0)) (0+d) (j3 (ap.x 0))) (0+d) ([]++H.flatten) rfl r O u M ab.flatten rfl ak.o.2.1 ak.o.2.2.1 ah.o ak.o.1 ak.o.2.2.2 (by unfold dV;omega) oM fun w' L=>Ck oP fun v n ag h=>rT r L oF h;intro aq;simp only[dY,gU,kf];refine l4.done ?_;intro W8 ai;have ad:W8.ownsRow W0.heap.size 77 2 (.slice (jK (au.x 0)) (0+e+z) (j3 (au.x 0))) (0+e+z) ([]++gV a.ps++gV b.ps):=ai.get 6 oO rfl rfl;have ac:W8.ownsRow W0.heap.size 95 3 (.slice (jK (aq.x 0)) (0+d+u) (j3 (aq.x 0))) (0+d+u) ([]++H.flatten++ab.flatten):=ai.get 13 oO rfl rfl;have aa:=ai.below;have bL:=aa.size;obtain⟨ae,ay⟩:=nM (jK (au.x 0));obtain⟨c1,az⟩:=nM (j3 (au.x 0));obtain⟨af,aA⟩:=nM (jK (aq.x 0));obtain⟨c2,aB⟩:=nM (j3 (aq.x 0));rw[ay,az,ec,List.nil_append] at ad;rw[aA,aB,ec,List.nil_append] at ac;rw[ay,az,aA,aB,ec,ec];clear ay az aA aB ai;have bj:=(bp.o).gD aa;obtain⟨br,bC,bH⟩:=bj.c3;have bk:=gF (gK ad (gK ac aa));clear ad ac bq bs bD;refine iG 14 fun K hK=>?_;go_simp;refine hK _ _ ?_;clear hK K;refine iG 15 fun K hK=>?_;go_simp;refine hK _ _ ?_;clear hK K;refine kS ?_;have bJ:N+1+1<W0.heap.size:=bE;have bu:w.heap.size<=N+1+1:=oM
 have V:=gF (mQ bj (ht ae (e+z) c1) (ht af (d+u) c2) (gE ha 0) (iq aP.o aa) bu);obtain⟨aw,aH⟩:=nM (((W8.setCell ⟨N+1+1,0,dE⟩ (ht ae (e+z) c1)).setCell ⟨N+1+1,1,dE⟩ (ht af (d+u) c2)).setCell ⟨N+1+1,2,dE⟩ (gE ha 0));rw[aH] at V;have bo:=gF aH;have bF:=gF al;clear aH;go_wp2;rw[bo.o];have bt:=V.o.box.cell;refine ek (v:= hE #[ht ae (e+z) c1, ht af (d+u) c2, gE ha 0]) (by simp[eP,results200,go_sem,bt]) rfl ?_;rw[<-bn.o];obtain⟨ad,ac,aa⟩:=bk.o;obtain⟨a1,I,X,Y⟩:=bm.o;obtain⟨B,C,F,G⟩:=bl.o;have aM:=aP.o.size;have bK:=V.o.size;have aW: ∀b,S b->aw.heap[b]?=W0.heap[b]?:=fun b h=>by have:=Z b h;exact(V.o.same b oM).trans (aa.block b oM)
 obtain⟨aN,c',ax,bx,bv,-⟩:=nC ad;obtain⟨rfl,rfl⟩:ae=aN/\c1=c':=by simpa using ax
 obtain⟨aN,c',ax,bz,bw,-⟩:=nC ac;obtain⟨rfl,rfl⟩:af=aN/\c2=c':=by simpa using ax
 refine⟨V.o.below,ae,c1,af,c2,by
  unfold il;rw[show(ig a b).ps=a.ps++b.ps from rfl,show(ig a b).gC=a.gC++b.gC from rfl,iI,iI,B,C,F,G]
  rfl,?_⟩
 have bc: ∀b,(W0.heap.size<=b/\b<W8.heap.size)->S b\/(w.heap.size<=b/\b<aw.heap.size):=fun b h=> .inr oM;have bb: ∀b,(W0.heap.size<=b/\b<W8.heap.size)->aw.heap[b]?=W8.heap[b]?:=fun b h=>V.o.same b oM;refine jf.of 0 (by rw[iI,B,C];exact bx) (by rw[sw];exact(bv.same' bb).mono bc) (by rw[iI,F,G];exact bz) ⟨H++ab,by rw[iI,iI,a1,I],by rw[eV];exact(bw.same' bb).mono bc,fun i h bI=>?_⟩
 by_cases aZ:i<a.gC.length
 rw[eO aZ,eO oM];exact(X i aZ oM).same aW fun b k=> .inl k;rw[iI] at h;rw[eK oM,eK oM];simp only[a1];exact(Y (i - a.gC.length) oM oM).same aW fun b k=> .inl k
theorem Gn (n:Nd) (po ko:Option Addr) (pc kc:Nat) (w:dH) (g:n.ps.length<=1000) (r:n.gC.length<=1000):
  ez dP 148 #[hE (il po pc ko kc n).toArray] w fun e w'=>e= .returned (gE ha n.size)/\dN w.heap.size w w':=by
 unfold Nd.size il;generalize n.ps.length=p at *;generalize n.gC.length=q at *;go_enter func148,ntmps148;go_wp2;go_ret;exact⟨congrArg (fun d=>Ending.returned (Value.int .i64 d)) oM,Below.one _ _⟩
theorem Gp (n:Nd) (po ko:Option Addr) (pc kc:Nat) (w:dH):
  ez dP 201 #[hE (il po pc ko kc n).toArray] w fun e w'=>e= .returned (.bool n.jO)/\dN w.heap.size w w':=by
 obtain⟨b,r⟩:=nM n.jO;rw[r];unfold il
 by_cases g:n.gC.length=0
 focus
  have d:decide (2<n.ps.length)=b:=by rw[<-r,Nd.jO,if_pos (yf.2 g)]
  rw[g];obtain⟨q,z⟩:=nM n.ps.length;rw[z] at d |-;clear r g z;have u:decide ((2:Int)<(q:Int))=b:=by rw[<-d];simp;omega
  have A:=gF u;clear d u
 rotate_left;focus
  have d:decide (4<n.gC.length)=b:=by rw[<-r,Nd.jO,if_neg fun e=>g (yf.1 e)]
  obtain⟨q,z⟩:=nM n.gC.length;rw[z] at d g |-;have B:((q:Int)==0)=false:=oN
  have u:decide ((4:Int)<(q:Int))=b:=by rw[<-d];simp;omega
  have A:=gF u;clear r g z d u
 all_goals go_enter func201,ntmps201;go_wp2;go_ret;exact⟨by rw[<-A.o];rfl,Below.one _ _⟩
theorem vt {a:Addr} {n:Nat} (h:jk (dF a) n c):c<=dV:=by
 rcases h with⟨h,_⟩|⟨_,_,_,d⟩;cases h;exact d
abbrev sk (w:dH) (b:Nat) (v0 v1 v2:dL):dH:=((w.setCell ⟨b,0,dE⟩ v0).setCell ⟨b,1,dE⟩ v1).setCell ⟨b,2,dE⟩ v2
theorem Nz (h:b≠c):(sk w c v0 v1 v2).heap[b]?=w.heap[b]?:=
 (dG _ ⟨c,2,dE⟩ _ _ h).trans ((dG _ ⟨c,1,dE⟩ _ _ h).trans (dG _ ⟨c,0,dE⟩ _ _ h))
theorem xW (w:dH) (a:Addr):w.drew.cell? a=w.cell? a:=rfl
theorem sG (h:b≠c):(sk w c v0 v1 v2).cell? ⟨b,j,dE⟩=w.cell? ⟨b,j,dE⟩:=by
 unfold World.cell?;rw[Nz h]
theorem z8 (po:Option Addr) (pc:Nat) (l:List Kv):il po pc dE 0 (kR l)=[ht po l.length pc, ht dE 0 0, gE ha 0]:=rfl
theorem Gq (ko:Option Addr) (kc:Nat) (l:List Nd):il dE 0 ko kc (kt l)=[ht dE 0 0, ht ko l.length kc, gE ha 0]:=rfl
structure s8 (w W0 Wf:dH) (N:Nat) (a0 a1 b0 b1:dL):Prop where
 a:Bx Wf (N+1) #[a0,a1, gE ha 0] 95
 b:Bx Wf (N+1+1) #[b0,b1, gE ha 0] 95
 below:dN w.heap.size w Wf
theorem yj {W0:dH} {F G H:dL} (C:Bx W0 (N+1) #[F,G,H] 95) (D:Bx W0 (N+1+1) #[z0,z1,z2] 95) (z:dN w.heap.size w W0) (I:w.heap.size=N) (d a1 b0 b1:dL):
  s8 w W0 (sk (sk W0 (N+1) d a1 (gE ha 0)) (N+1+1) b0 b1 (gE ha 0)).drew N d a1 b0 b1:=by
 have A: ∀e,wG w W0 e (N+1) d a1 (gE ha 0)->s8 w W0 (sk e (N+1+1) b0 b1 (gE ha 0)).drew N d a1 b0 b1:=fun e g=>by have E:Bx e (N+1+1) #[z0,z1,z2] 95:=(g.same (N+1+1) oM).trans D;have B: ∀u,wG w e u (N+1+1) b0 b1 (gE ha 0)->s8 w W0 u.drew N d a1 b0 b1:=fun u r=>⟨(r.same (N+1) oM).trans g.box,r.box,r.below.drew⟩;exact B _ (mQ E b0 b1 (gE ha 0) g.below oM)
 exact A _ (mQ C d a1 (gE ha 0) z oM)
def uy (S:Nat->Prop) (w:dH) (n m:Nd) (e:Ending) (w':dH):Prop:=
 dN w.heap.size w w'/\ ∃po pc ko kc qo qc lo lc,e= .returned (.tuple #[hE (il po pc ko kc n).toArray, hE (il qo qc lo lc m).toArray])/\
  jf (fun b=>S b\/(w.heap.size<=b/\b<w'.heap.size)) w' (il po pc ko kc n) n/\jf (fun b=>S b\/(w.heap.size<=b/\b<w'.heap.size)) w' (il qo qc lo lc m) m
theorem Gs (n:Nd) (k:Nat) (po ko:Option Addr) (pc kc:Nat) (w:dH) (aw: ∀b,S b->b<w.heap.size) (ah:jf S w (il po pc ko kc n) n) (aM:0<k) (ax:k<if n.gC=[] then n.ps.length else n.gC.length):
  ez dP 202 #[hE (il po pc ko kc n).toArray, gE ha k] w (uy S w (jo n k).1 (jo n k).2):=by
 obtain⟨F,L,E,I⟩:=ah.parts;obtain⟨q,A⟩:=nM n.ps.length;obtain⟨m,u⟩:=nM n.gC.length;obtain⟨al,ak⟩:=nM n.page;have ag:il po pc ko kc n=[ht po q pc, ht ko m kc, gE ha al]:=by unfold il;rw[A,u,ak]
 obtain⟨aL,Y⟩:=nM (uy S w (jo n k).1 (jo n k).2);rw[ag,Y];have aG:=(ox F).1;have aE:=(ox E).1;have aB:=(ox F).2;have az:=(ox E).2;rw[A] at aG aB;rw[u] at aE az;unfold dV at aB az;obtain⟨N,X⟩:=nM w.heap.size;obtain⟨W0,Z⟩:=nM (((w.alloc (hF #[ht po q pc, ht ko m kc, gE ha al] 95)).alloc (hF #[ht dE 0 0, ht dE 0 0, gE ha 0] 95)).alloc (hF #[ht dE 0 0, ht dE 0 0, gE ha 0] 95));have D:dN w.heap.size w W0:=by subst Z;exact((Below.one w _).alloc oC _).alloc oN _
 have am:Bx W0 N #[ht po q pc, ht ko m kc, gE ha al] 95:=by subst Z X;exact((Bx.new w _ _).alloc _).alloc _
 have z:Bx W0 (N+1) #[ht dE 0 0, ht dE 0 0, gE ha 0] 95:=by subst Z X;exact(Bx.ir _ _ _ _ oC).alloc _
 have r:Bx W0 (N+1+1) #[ht dE 0 0, ht dE 0 0, gE ha 0] 95:=by subst Z X;exact Bx.ir _ _ _ _ oC
 have aN:=r.lt;obtain⟨V,aO⟩:=am.c2;have aP:=z.lt;have aQ:=r.lt;have av:=jv.cells W0;have ao:=gF (gK D (gK z r));have au:=gF Y;have aq:=gF (gK F (gK L (gK E I)));have ap:=gF (gK A u);have ar:=gF X
 by_cases H:n.gC=[]
 .
  rw[if_pos H,A] at ax;have ay:m=0:=by rw[<-u,H];rfl
  obtain⟨d,e,rfl,-⟩:=xq L (i:=0) (by rw[A];omega);have aa:Hid (jo n k=(kR (n.ps.take k),kR (n.ps.drop k))):=gF (by unfold jo;rw[if_pos H]);subst ay;clear D am z r Y F L E I A u H ak ag ah;go_enter func202,ntmps202;have ad:=jv.cells W0;have aj:k<=pc:=oM
  have aF:pc≠k:=oM
  go_upto_region 2 with fail
  have aH:(0:Int)<=(k:Int):=oM
  have aI:(k:Int)<=(q:Int):=oM
  have aJ:(k:Int)<=(pc:Int):=oM
  have aK:(q:Int)<=(pc:Int):=oM
  have g:W0.cell? ⟨N,0,dE⟩=dF (ht (dF ⟨d,e,dE⟩) q pc):=by rw[V];rfl
  obtain⟨D,z,r⟩:=ao.o;obtain⟨ab,ae⟩:=z.cf;obtain⟨ac,af⟩:=r.cf;have B:N≠N+1:=oM
  have M:N≠N+1+1:=oM
  have J:Hid (s8 w W0 (sk (sk W0 (N+1) (ht (dF ⟨d,e,dE⟩) k pc) (ht dE 0 0) (gE ha 0)) (N+1+1) (ht (dF ⟨d,e+k * 2,dE⟩) (q - k) (pc - k)) (ht dE 0 0) (gE ha 0)).drew N (ht (dF ⟨d,e,dE⟩) k pc) (ht dE 0 0) (ht (dF ⟨d,e+k * 2,dE⟩) (q - k) (pc - k)) (ht dE 0 0)):=gF (yj z r D ar.o _ _ _ _);clear z r D
  go_region_held3 (fun w'=>w'.cell? ⟨N,0,dE⟩=dF (ht (dF ⟨d,e,dE⟩) q pc)) (first| (simp only[xW];first|with_reducible exact g| (rw[sG B];with_reducible exact g)| (rw[sG M,sG B];with_reducible exact g))| (first|with_reducible exact g| (rw[sG B];with_reducible exact g)| (rw[sG M,sG B];with_reducible exact g))| (go_keep;done)) (fail)
  obtain⟨G,U⟩:=nM ((sk (sk W0 (N+1) (ht (dF ⟨d,e,dE⟩) k pc) (ht dE 0 0) (gE ha 0)) (N+1+1) (ht (dF ⟨d,e+k * 2,dE⟩) (q - k) (pc - k)) (ht dE 0 0) (gE ha 0)).drew);rw[U] at J |-;have C:=J;have c1:=C.o.a.cell;have c2:=C.o.b.cell;clear ab ae ac af B M g V U av ad J;go_wp2;refine ek (v:= .tuple #[hE #[ht (dF ⟨d,e,dE⟩) k pc, ht dE 0 0, gE ha 0], hE #[ht (dF ⟨d,e+k * 2,dE⟩) (q - k) (pc - k), ht dE 0 0, gE ha 0]]) (by simp[eP,results202,go_sem,c1,c2]) rfl ?_;rw[<-au.o,aa.o];obtain⟨F,L,E,I⟩:=aq.o;obtain⟨A,u⟩:=ap.o;have ai: ∀b,S b->G.heap[b]?=w.heap[b]?:=fun b h=>C.o.below.block b (aw b h);have aC:gO S G (dF ⟨d,e,dE⟩) (gV n.ps):=L.same' ai;have O:(n.ps.take k).length=k:=by rw[dJ,A];omega
  have R:(n.ps.drop k).length=q - k:=by rw[dQ,A]
  refine⟨C.o.below,dF ⟨d,e,dE⟩,pc,dE,0,dF ⟨d,e+k * 2,dE⟩,pc - k,dE,0,?_,?_,?_⟩;rw[z8,z8,O,R];exact jf.leaf (ps:=n.ps.take k) (page:=0) (by rw[O];exact .inr ⟨_,rfl,aj,(vt F)⟩) ((by rw[xL];exact aC.s6 (k * 2):gO S G _ _).mono fun b h=> .inl h);exact jf.leaf (ps:=n.ps.drop k) (page:=0) (by rw[R];exact .inr ⟨_,rfl,oM,by have:=vt F;omega⟩) ((by rw[xM];exact aC.s7 (k * 2):gO S G _ _).mono fun b h=> .inl h)
 rw[if_neg H,u] at ax;obtain⟨d,e,-,-,-,-,aD,-⟩:=I.get (i:=0) (by rw[u];omega);subst aD;have aa:Hid (jo n k=(kt (n.gC.take k),kt (n.gC.drop k))):=gF (by unfold jo;rw[if_neg H]);have ay:((m:Int)==0)=false:=oN
 clear D am z r Y F L E I A u H ak ag ah;go_enter func202,ntmps202;have ad:=jv.cells W0;have aj:k<=kc:=oM
 have aF:kc≠k:=oM
 go_upto_region 3 with fail
 have aH:(0:Int)<=(k:Int):=oM
 have aI:(k:Int)<=(m:Int):=oM
 have aJ:(k:Int)<=(kc:Int):=oM
 have aK:(m:Int)<=(kc:Int):=oM
 have g:W0.cell? ⟨N,1,dE⟩=dF (ht (dF ⟨d,e,dE⟩) m kc):=by rw[V];rfl
 obtain⟨D,z,r⟩:=ao.o;obtain⟨ab,ae⟩:=z.cf;obtain⟨ac,af⟩:=r.cf;have B:N≠N+1:=oM
 have M:N≠N+1+1:=oM
 have J:Hid (s8 w W0 (sk (sk W0 (N+1) (ht dE 0 0) (ht (dF ⟨d,e,dE⟩) k kc) (gE ha 0)) (N+1+1) (ht dE 0 0) (ht (dF ⟨d,e+k * 3,dE⟩) (m - k) (kc - k)) (gE ha 0)).drew N (ht dE 0 0) (ht (dF ⟨d,e,dE⟩) k kc) (ht dE 0 0) (ht (dF ⟨d,e+k * 3,dE⟩) (m - k) (kc - k))):=gF (yj z r D ar.o _ _ _ _);clear z r D
 go_region_held3 (fun w'=>w'.cell? ⟨N,1,dE⟩=dF (ht (dF ⟨d,e,dE⟩) m kc)) (first| (simp only[xW];first|with_reducible exact g| (rw[sG B];with_reducible exact g)| (rw[sG M,sG B];with_reducible exact g))| (first|with_reducible exact g| (rw[sG B];with_reducible exact g)| (rw[sG M,sG B];with_reducible exact g))| (go_keep;done)) (fail)
 obtain⟨G,U⟩:=nM ((sk (sk W0 (N+1) (ht dE 0 0) (ht (dF ⟨d,e,dE⟩) k kc) (gE ha 0)) (N+1+1) (ht dE 0 0) (ht (dF ⟨d,e+k * 3,dE⟩) (m - k) (kc - k)) (gE ha 0)).drew);rw[U] at J |-;have C:=J;have c1:=C.o.a.cell;have c2:=C.o.b.cell;clear ab ae ac af B M g V U av ad J;go_wp2;refine ek (v:= .tuple #[hE #[ht dE 0 0, ht (dF ⟨d,e,dE⟩) k kc, gE ha 0], hE #[ht dE 0 0, ht (dF ⟨d,e+k * 3,dE⟩) (m - k) (kc - k), gE ha 0]]) (by simp[eP,results202,go_sem,c1,c2]) rfl ?_;rw[<-au.o,aa.o];obtain⟨F,L,E,I⟩:=aq.o;obtain⟨A,u⟩:=ap.o;have ai: ∀b,S b->G.heap[b]?=w.heap[b]?:=fun b h=>C.o.below.block b (aw b h);have aA:jw S G (dF ⟨d,e,dE⟩) n.gC:=I.same ai;have O:(n.gC.take k).length=k:=by rw[dJ,u];omega
 have R:(n.gC.drop k).length=m - k:=by rw[dQ,u]
 refine⟨C.o.below,dE,0,dF ⟨d,e,dE⟩,kc,dE,0,dF ⟨d,e+k * 3,dE⟩,kc - k,?_,?_,?_⟩;rw[Gq,Gq,O,R];exact(jf.of 0 (.inl ⟨rfl,rfl,rfl⟩) (gO.nil _ _ _) (by rw[O];exact .inr ⟨_,rfl,aj,vt E⟩) (aA.take k)).up fun b h=> .inl h;exact(jf.of 0 (.inl ⟨rfl,rfl,rfl⟩) (gO.nil _ _ _) (by rw[R];exact .inr ⟨_,rfl,oM,by have:=vt E;omega⟩) (aA.drop k)).up fun b h=> .inl h
section
variable {P:eu} {ops:Array Oper} {md:dM} {W0:dH} {an:Nat->Option (Rec->dL)} {Inv:iz->dH->Prop}
end
theorem Tm.bounds (t:Tm a b h n):n.ps.length<=3/\n.gC.length<=8:=by
 cases t with
 | lf _ _ B g z e=>exact⟨e,by simp[Nd.gC]⟩
 | mD _ _ h A g u r d=>exact⟨by simp[Nd.ps],d⟩
theorem Tm.ou (t:Tm a b h n) (d:n.jO=dI):0<n.size - 1/\n.size - 1<(if n.gC=[] then n.ps.length else n.gC.length)/\1<(if n.gC=[] then n.ps.length else n.gC.length)/\n.size=if n.gC=[] then n.ps.length else n.gC.length:=by
 unfold Nd.jO at d;unfold Nd.size;cases h with
 | zero=>have e:=t.px.1;rw[if_pos e] at d |-;simp only[decide_eq_true_eq] at d;simp only[e,ee];omega
 | succ h=>obtain⟨g,e,-⟩:=t.lK;rw[if_neg e] at d |-;simp only[decide_eq_true_eq] at d;simp only[g,ee];omega
theorem NA (u:Tm a b h x) (B:Tm a' b' h y) (A:x.jO=dI):lu x y dI=[(jo x (x.size - 1)).1,ig (jo x (x.size - 1)).2 y]:=by
 obtain⟨-,z,-,E⟩:=u.ou A;unfold lu;simp only[A,if_true];cases h with
 | zero=>
  have d:=u.px.1;have e:=B.px.1;rw[if_pos d] at z;have g:(ig x y).gC=[]:=by unfold ig;simp[Nd.gC];exact⟨d,e⟩
  have r:(ig x y).ps=x.ps++y.ps:=rfl;unfold jo;rw[if_pos g,if_pos d,r,eB oM,eD oM];unfold ig kR;simp[Nd.ps,Nd.gC];exact e
 | succ h=>
  obtain⟨F,d,-⟩:=u.lK;obtain⟨D,e,-⟩:=B.lK;rw[if_neg d] at z;have g:(ig x y).gC≠[]:=by unfold ig;intro C;exact d (eR.1 C).1
  have r:(ig x y).gC=x.gC++y.gC:=rfl;unfold jo;rw[if_neg g,if_neg d,r,eB oM,eD oM];unfold ig kt;simp[Nd.ps,Nd.gC];exact D
theorem NB (D:Tm a b h x) (z:Tm a' b' h y) (C:y.jO=dI):lu x y dO=[ig x (jo y 1).1,(jo y 1).2]:=by
 obtain⟨-,-,A,-⟩:=z.ou C;unfold lu Nd.size;simp only[C,if_true,ei,if_false];cases h with
 | zero=>
  have e:=D.px.1;have d:=z.px.1;rw[if_pos d] at A;have g:(ig x y).gC=[]:=by unfold ig;simp[Nd.gC];exact⟨e,d⟩
  have r:(ig x y).ps=x.ps++y.ps:=rfl;have u:x.gC.length=0:=by rw[e];rfl
  unfold jo;rw[if_pos g,if_pos d,r,u,Nat.add_zero,eH,eI];unfold ig kR;simp[Nd.ps,Nd.gC];exact e
 | succ h=>
  obtain⟨B,e,-⟩:=D.lK;obtain⟨F,d,-⟩:=z.lK;rw[if_neg d] at A;have g:(ig x y).gC≠[]:=by unfold ig;intro E;exact e (eR.1 E).1
  have r:(ig x y).gC=x.gC++y.gC:=rfl;have u:x.ps.length=0:=by rw[B];rfl
  unfold jo;rw[if_neg g,if_neg d,r,u,ec,eH,eI];unfold ig kt;simp[Nd.ps,Nd.gC];exact B
theorem NC {left:Bool} (d:(if left then x.jO else y.jO)=dO):lu x y left=[ig x y]:=by
 unfold lu;cases left<;>simp_all
def pK (cs:Array dL) (t:dU):mS:=⟨fun r=> .pointer (dF ⟨r.lo,0,dE⟩),fun r W=>Bx W r.lo cs t/\r.hi=r.lo+1⟩
theorem s9 (w:dH):pR (pK cs t) w (.pointer (dF ⟨w.heap.size,0,dE⟩)) (w.alloc (hF cs t)):=
 ⟨Below.one _ _,fun _=>eL,rfl,fun _ d=>⟨(Bx.new w _ _).gD d,oC⟩⟩
def qW (S:Nat->Prop) (n:Nd) (a1 a2:Nat):mS:=⟨fun r=> hE #[ht (jK (r.x 0)) a1 (j3 (r.x 0)), ht (jK (r.x 1)) a2 (j3 (r.x 1)), gE ha 0],fun r W=>jf (fun b=>S b\/(r.lo<=b/\b<r.hi)) W [ht (jK (r.x 0)) a1 (j3 (r.x 0)), ht (jK (r.x 1)) a2 (j3 (r.x 1)), gE ha 0] n⟩
theorem vv (r: ∀b,S b->b<W.heap.size) (g: ∀a b c d,il a b c d n=[ht a a1 b, ht c a2 d, gE ha 0]) (h:ez dP f args W (lv S W n)):
  ez dP f args W fun e w'=> ∃u,e= .returned u/\pR (qW S n a1 a2) W u w':=
 h.mono fun _ w' ⟨hb,po,pc,ko,kc,he,h1⟩=>⟨_,he,hb,fun i=>if i=0 then ht po 0 pc else ht ko 0 kc,by rw[g];rfl,fun B z=>by
  rw[g] at h1;exact h1.keep (fun b k=>by
   have A:=hb.size;rcases k with k|k;. have:=r b k;omega
   . exact k.2) z⟩
def td (S:Nat->Prop) (n m:Nd) (a1 a2 a3 a4:Nat):mS:=⟨fun r=> .tuple #[hE #[ht (jK (r.x 0)) a1 (j3 (r.x 0)), ht (jK (r.x 1)) a2 (j3 (r.x 1)), gE ha 0], hE #[ht (jK (r.x 2)) a3 (j3 (r.x 2)), ht (jK (r.x 3)) a4 (j3 (r.x 3)), gE ha 0]],
 fun r W=>jf (fun b=>S b\/(r.lo<=b/\b<r.hi)) W [ht (jK (r.x 0)) a1 (j3 (r.x 0)), ht (jK (r.x 1)) a2 (j3 (r.x 1)), gE ha 0] n/\jf (fun b=>S b\/(r.lo<=b/\b<r.hi)) W [ht (jK (r.x 2)) a3 (j3 (r.x 2)), ht (jK (r.x 3)) a4 (j3 (r.x 3)), gE ha 0] m⟩
theorem yl {m:Nd} {g r:Nat} (D: ∀b,S b->b<W.heap.size) (C: ∀a b c d,il a b c d n=[ht a a1 b, ht c a2 d, gE ha 0]) (B: ∀a b c d,il a b c d m=[ht a g b, ht c r d, gE ha 0]) (h:ez dP f args W (uy S W n m)):
  ez dP f args W fun e w'=> ∃u,e= .returned u/\pR (td S n m a1 a2 g r) W u w':=
 h.mono fun _ w' ⟨hb,po,pc,ko,kc,qo,qc,lo,lc,he,h1,h2⟩=>⟨_,he,hb,fun i=>if i=0 then ht po 0 pc else if i=1 then ht ko 0 kc else if i=2 then ht qo 0 qc else ht lo 0 lc,by rw[C,B];rfl,fun F z=>by
  rw[C] at h1;rw[B] at h2;have A: ∀b,(S b\/(W.heap.size<=b/\b<w'.heap.size))->b<w'.heap.size:=fun b k=>by
   have E:=hb.size;rcases k with k|k;. have:=D b k;omega
   . exact k.2
  exact⟨h1.keep A z,h2.keep A z⟩⟩
theorem vw (e:n.page=0): ∀a b c d,il a b c d n=[ht a n.ps.length b, ht c n.gC.length d, gE ha 0]:=fun a b c d=>by unfold il;rw[e]
theorem Gt (n:Nd) (k:Nat):((jo n k).1.ps.length<=n.ps.length/\(jo n k).1.gC.length<=n.gC.length)/\(jo n k).2.ps.length<=n.ps.length/\(jo n k).2.gC.length<=n.gC.length:=by
 unfold jo;split<;>simp[kR,kt,Nd.ps,Nd.gC]<;>omega
theorem Gu (n:Nd) (k:Nat):(jo n k).1.page=0/\(jo n k).2.page=0:=by
 unfold jo;split<;>exact⟨rfl,rfl⟩
theorem Gv {m:Nd} {L:List Nd} (C:L=[n,m]) (e:dN w.heap.size w W) (u:jf (fun b=>S b\/(w.heap.size<=b/\b<W.heap.size)) W c1 n) (A:jf (fun b=>S b\/(w.heap.size<=b/\b<W.heap.size)) W c2 m) (D: ∀b,S b->b<w.heap.size):
  ∃o c,dK (dF ⟨W.heap.size,0,dE⟩) 2 2= ht o L.length c/\jk o L.length c/\jw (fun b=>S b\/(w.heap.size<=b/\b<(W.alloc (hF (c1++c2).toArray 95)).heap.size)) (W.alloc (hF (c1++c2).toArray 95)) o L/\dN w.heap.size w (W.alloc (hF (c1++c2).toArray 95)):=by
 subst C;have E:=e.size;have F:(W.alloc (hF (c1++c2).toArray 95)).heap.size=W.heap.size+1:=oC
 have g: ∀b,(S b\/(w.heap.size<=b/\b<W.heap.size))->b<W.heap.size:=fun b d=>by rcases d with h|h;have:=D b h;omega;exact h.2
 have r: ∀b,(S b\/(w.heap.size<=b/\b<W.heap.size))->S b\/(w.heap.size<=b/\b<(W.alloc (hF (c1++c2).toArray 95)).heap.size):=fun b d=>d.imp id fun h=>⟨h.1,oM⟩;have z:=(u.keep g (Below.one W (hF (c1++c2).toArray 95))).up r;have B:=(A.keep g (Below.one W (hF (c1++c2).toArray 95))).up r;refine⟨dF ⟨W.heap.size,0,dE⟩,2,rfl, .inr ⟨_,rfl,eo _,by simp[dV]⟩,wE ?_ z B,e.alloc E _⟩;have:=gO.bx (Bx.new W (c1++c2).toArray 95);exact this.mono fun b d=> .inr ⟨oM,oM⟩
theorem iM.own (h:iM S b0 w v l): ∀b,v.ownBlock=dF b->b0<=b/\b<w.heap.size:=by
 obtain⟨_,_,e,_⟩:=h;exact fun b d=>e.lt b d
theorem jw.jT (h:jw T w o l) (r:iM T b0 w v m) (d: ∀b,T b->b<b0) (z:b0<=w.heap.size) (u:w.grownBy w' v.ownBlock):jw T w' o l:=
 h.same fun b e=>u.block b (by have:=d b e;omega) fun g=>by have:=(r.own b g.symm).1;have:=d b e;omega
theorem Bx.jT (h:Bx w b cs t) (e:iM T b0 w v m) (r:b<b0) (g:w.grownBy w' v.ownBlock):Bx w' b cs t:=
 h.grown g fun d=>by have:=(e.own b d.symm).1;omega
theorem Below.jT {d:dH} (h:dN d.heap.size d w) (g:iM T b0 w v m) (u:d.heap.size<=b0) (r:w.grownBy w' v.ownBlock):dN d.heap.size d w':=
 h.grown r h.size fun b e=>by have:=(g.own b e).1;omega
section
variable {P:eu} {ops:Array Oper} {rest:List Oper} {o:Oper} {a:Act} {Q:Exit->Act->dH->Prop} {w:dH}
theorem Cm {K:Act->dH->Prop} (s x:eQ) (t:dU)
  (Z:o.op=Op.call { callee:=eb ea,args:=#[s,x],argTypes:=#[t,t] }) (ad:P.underlying t=dF (.slice 95))
  (i:eG) (B:dL) (X:P.info? 95=dF i) (af:i.zero=dF B) (ab:i.size=3) (V:i.bytes=56) (ag:B.cells.size=3)
  {T:Nat->Prop} {b0:Nat} (R: ∀b,T b->b<w.heap.size) (U:b0<=w.heap.size) (e:Option Addr) (d n k:Nat) (l m:List Nd) (F:l.length=n) (E:m.length=k) (aa:a.eval s= ht e n d) (O:iM T b0 w (ht e n d) l)
  (g:Option Addr) (c:Nat) (ae:a.eval x= ht g k c) (ac:jk g k c) (Y:jw (fun b=>T b/\(dK e n d).ownBlock≠dF b) w g m) (ai:n+k<=1000000)
  (hK: ∀z u w',iM T b0 w' (ht z (n+k) u) (l++m)->w.grownBy w' (dK e n d).ownBlock->((dK z (n+k) u).ownBlock=(dK e n d).ownBlock\/(dK z (n+k) u).ownBlock=dF w.heap.size)->K (a.put o.dst (ht z (n+k) u)) w'):
  o.wp P a w K Q:=by
 obtain⟨H,a1,a2,J⟩:=O;obtain⟨I,r,L,A⟩:=Y;rw[F] at a2;refine Cf s x t Z b0 95 i B 3 56 ad X af ab V ag oF (ht e n d) n H.flatten aa a2 g k c I.flatten ae ac.nil (by rw[vr (s3 r A),r,E]) (L.mono fun b h=>h.1) (wD r A) (by unfold dV;omega) oM U ?_;intro aj w' G D C;obtain⟨ah,M,rfl⟩:=pD G;exact hK ah M w' (iM.app a1 J R r A (by rw[F,E];exact G) D C) D C
theorem ND {K:Act->dH->Prop} (s x:eQ) (t:dU)
  (M:o.op=Op.call { callee:=eb ea,args:=#[s,x],argTypes:=#[t,t] }) (V:P.underlying t=dF (.slice 95))
  (i:eG) (z:dL) (H:P.info? 95=dF i) (Y:i.zero=dF z) (R:i.size=3) (G:i.bytes=56) (Z:z.cells.size=3)
  {T:Nat->Prop} {b0:Nat} (E: ∀b,T b->b<w.heap.size) (F:b0<=w.heap.size) (e:Option Addr) (d n k:Nat) (l m:List Nd) (L:l.length=n) (I:m.length=k) (O:a.eval s= ht e n d) (D:iM T b0 w (ht e n d) l)
  (g:Option Addr) (c:Nat) (X:a.eval x= ht g k c) (U:jk g k c) (J:jw (fun b=>T b/\(dK e n d).ownBlock≠dF b) w g m) (C:n+k<=1000000)
  (hK: ∀u r w',iM T b0 w' (ht u (n+k) r) (l++m)->w.grownBy w' (dK e n d).ownBlock->K (a.put o.dst (ht u (n+k) r)) w'):
  o.wp P a w K Q:=
 Cm s x t M V i z H Y R G Z E F e d n k l m L I O D g c X U J C fun u r w' A B _=>hK u r w' A B
theorem jw.apart {T:Nat->Prop} {b0:Nat} {v:dL} {d:Option Addr} {l m:List Nd} (h:jw T w d m) (r:iM T b0 w v l) (u: ∀b,T b->b<b0):jw (fun b=>T b/\v.ownBlock≠dF b) w d m:=
 h.up fun b e=>⟨e,fun g=>by have:=(r.own b g).1;have:=u b e;omega⟩
theorem Cn (I:o.guard=dE) (s x:eQ) (t:dU)
  (R:o.op=Op.call { callee:=eb ea,args:=#[s,x],argTypes:=#[t,t] }) (Y:P.underlying t=dF (.slice 95))
  (i:eG) (z:dL) (J:P.info? 95=dF i) (aa:i.zero=dF z) (V:i.size=3) (H:i.bytes=56) (ab:z.cells.size=3)
  {T:Nat->Prop} {b0:Nat} (F: ∀b,T b->b<w.heap.size) (G:b0<=w.heap.size) (e:Option Addr) (d n k:Nat) (l m:List Nd) (O:l.length=n) (L:m.length=k) (U:a.eval s= ht e n d) (E:iM T b0 w (ht e n d) l)
  (g:Option Addr) (c:Nat) (Z:a.eval x= ht g k c) (X:jk g k c) (M:jw (fun b=>T b/\(dK e n d).ownBlock≠dF b) w g m) (C:n+k<=1000000)
  (hK: ∀u r w',iM T b0 w' (ht u (n+k) r) (l++m)->w.grownBy w' (dK e n d).ownBlock->wpList P ops Q rest (a.put o.dst (ht u (n+k) r)) w'):
  wpList P ops Q (o::rest) a w:=
 wpList_plain I fun _ D=>ND s x t R Y i z J aa V H ab F G e d n k l m O L U E g c Z X M C fun u r w' A B=>D _ _ (hK u r w' A B)
theorem Aa (F:o.guard=dE) (s x:eQ) (t:dU)
  (L:o.op=Op.call { callee:=eb ea,args:=#[s,x],argTypes:=#[t,t] }) (U:P.underlying t=dF (.slice 95))
  (i:eG) (r:dL) (G:P.info? 95=dF i) (X:i.zero=dF r) (O:i.size=3) (E:i.bytes=56) (Y:r.cells.size=3)
  {T:Nat->Prop} {b0:Nat} (z: ∀b,T b->b<b0) (A:b0<=w.heap.size) (g:Option Addr) (e n k:Nat) (l m:List Nd) (J:l.length=n) (H:m.length=k) (M:a.eval s= ht g n e) (u:iM T b0 w (ht g n e) l)
  (d:Option Addr) (c:Nat) (V:a.eval x= ht d k c) (R:jk d k c) (I:jw T w d m) (D:n+k<=1000000)
  (hK: ∀C B w',iM T b0 w' (ht C (n+k) B) (l++m)->w.grownBy w' (dK g n e).ownBlock->wpList P ops Q rest (a.put o.dst (ht C (n+k) B)) w'):
  wpList P ops Q (o::rest) a w:=
 Cn F s x t L U i r G X O E Y (fun b h=>iU (z b h) A) A g e n k l m J H M u d c V R (I.apart u z) D hK
end
theorem NF (x y:Nd) (b:Bool):(lu x y b).length<=2:=by
 unfold lu;cases b;. simp only[ei,if_false];split<;>simp
 simp only[if_true];split<;>simp
def mr (old:List Nd) (s:List UInt8):Option Int:=(old.find? fun k=>decide (iy k=s)).map Nd.page
theorem NG (n:Nd):qG (dF n)=mr n.je:=rfl
theorem NH {g:Int} (h:mr old s=dF g): ∃k∈old,k.page=g:=by
 unfold mr at h;obtain⟨k,e,d⟩:=Option.map_eq_some_iff.1 h;exact⟨k,List.mem_of_find?_eq_some e,d⟩
theorem NI (r:j<old.length) (e: ∀i (d:i<old.length),i<j->iy old[i]≠s) (g:iy old[j]=s):mr old s=dF old[j].page:=by
 unfold mr;have:old.find? (fun k=>decide (iy k=s))=dF old[j]:=by rw[List.find?_eq_some_iff_getElem];refine⟨by simpa using g,j,r,rfl,fun i d=>?_⟩;have:=e i oM d;simpa using this
 rw[this];rfl
theorem NJ (e: ∀i (d:i<old.length),iy old[i]≠s):mr old s=none:=by
 unfold mr;have:old.find? (fun k=>decide (iy k=s))=none:=by rw[List.find?_eq_none];intro k g;obtain⟨i,d,rfl⟩:=List.getElem_of_mem g;simpa using e i d
 rw[this];rfl
theorem NK (look:List UInt8->Option Int) (a:List Nd) (k:Nd) (p:kq):lB look (a++[k]) p=(lB look a p).bind fun x=>(l7 look k x.2).map fun y=>(x.1++[y.1],y.2):=by
 rw[EU];congr 1;funext x;rw[lB];cases l7 look k x.2 with
 | none=>rfl
 | some y=>simp only[lB,Option.map_some]
def uz (look:List UInt8->Option Int) (n:Nd) (full:Bool) (p:kq) (k:Nat):Option (List Nd×kq):=if full then dE else lB look (n.gC.take k) p
theorem NL (look:List UInt8->Option Int) (n:Nd) (full:Bool) (p:kq):uz look n full p 0=if full then dE else dF ([],p):=by
 unfold uz;rw[eg,lB]
theorem NM {full:Bool} (h:k<n.gC.length):uz look n full p (k+1)=(uz look n full p k).bind fun x=>(l7 look n.gC[k] x.2).map fun y=>(x.1++[y.1],y.2):=by
 unfold uz;cases full with
 | true=>rfl
 | false=>simp only[ei,if_false];rw[List.take_succ_eq_append_getElem h,NK]
structure qx (look:List UInt8->Option Int) (n:Nd) (p:kq):Prop where
 qN:kM n
 uA:oH look p
 few:p.ws.length+n.pre.length<=1000000
theorem NN (l:List Nd) (k:Nat) (h:k<l.length):((l.take k).map Nd.pre).flatten.length+l[k].pre.length<=(l.map Nd.pre).flatten.length:=by
 have d:l=l.take k++l[k]::l.drop (k+1):=by rw[List.getElem_cons_drop,eT]
 have:=congrArg (fun l=>((l.map Nd.pre).flatten).length) d;simp only[List.map_append,List.map_cons,eV,List.flatten_cons,iI] at this;omega
theorem qx.kid (h:qx look n p) (g:k<n.gC.length) (r:lB look (n.gC.take k) p=dF (KS,q)):qx look n.gC[k] q:=by
 have B:=zq (fun k _ p d q h=>wk k p d q h) r;have u:=(zo (fun k _ p d q h=>uT k p d q h) r).2.1;have C:=NN n.gC k g;have z:=h.few;rw[Nd.jy,j1] at z;exact⟨h.qN.kid _ (List.getElem_mem g),⟨h.uA.1,fun e A=>h.uA.2 e (u e A)⟩,oM⟩
theorem kM.vx: ∀{n:Nd},kM n.er->kM n:=by
 intro n
 induction n using Nd.ind with
 | h E g D A=>
  intro h;rw[Nd.jJ] at h;simp only[Nd.ps,Nd.gC] at h;generalize hK:g.map Nd.er=K at h;cases h with
  | lf _ _ r u d=>obtain rfl:g=[]:=List.map_eq_nil_iff.1 hK;exact .lf _ _ r u d
  | mD _ _ B C d=>have z:=congrArg List.length hK;rw[List.length_map] at z;exact .mD _ _ oM oM fun k e=>A k e (d _ (by rw[<-hK];exact List.mem_map.2 ⟨k,e,rfl⟩))
theorem qx.done (h:qx look n p) (e:lB look n.gC p=dF (KS,q)) (g:Int):lC (.mk n.ps KS g)/\q.ws.length+1<=1000000/\oH look q:=by
 have D:=zq (fun k _ p d q h=>wk k p d q h) e;obtain⟨r,u,z⟩:=zo (fun k _ p d q h=>uT k p d q h) e;have A:=h.few;rw[Nd.jy,j1] at A;have C:kM (.mk n.ps KS g):=by
  have:(Nd.mk n.ps KS g).er=n.er:=by rw[Nd.jJ,Nd.jJ];show Nd.mk n.ps (KS.map Nd.er) 0=_;rw[r]
  exact kM.vx (this▸h.qN.er)
 exact⟨C.rO (z h.uA),oM,h.uA.1,fun g B=>h.uA.2 g (u g B)⟩
theorem gO.ym {l:List dL} (h:gO S w o l) (d: ∀b,S b->b<w.heap.size) (e:dN w.heap.size w w'):gO S w' o l:=h.same' fun b k=>e.block b (d b k)
structure pX (S:Nat->Prop) (w:dH) (oo:Option Addr) (oc:Nat) (fo:Option Addr) (fc:Nat) (wo:Option Addr) (wc:Nat) (old:List Nd) (p:kq):Prop where
 os:jk oo old.length oc
 on:jw S w oo old
 fs:jk fo p.free.length fc
 fr:gO S w fo (p.free.map (.int .i64))
 ws:jk wo p.ws.length wc
 wr:gO S w wo (mi p.ws)
def rU (oo:Option Addr) (oc:Nat) (fo:Option Addr) (fc:Nat) (wo:Option Addr) (wc:Nat) (old:List Nd) (p:kq) (full:Bool):List dL:=[ht oo old.length oc, ht fo p.free.length fc, ht wo p.ws.length wc, .bool full]
theorem pX.same (h:pX S w oo oc fo fc wo wc old p) (e: ∀b,S b->w'.heap[b]?=w.heap[b]?) (d: ∀b,S b->T b):pX T w' oo oc fo fc wo wc old p:=
 ⟨h.os,(h.on.same e).up d,h.fs,(h.fr.same' e).mono d,h.ws,(h.wr.same' e).mono d⟩
theorem pX.up (h:pX S w oo oc fo fc wo wc old p) (d: ∀b,S b->T b):pX T w oo oc fo fc wo wc old p:=h.same (fun _ _=>rfl) d
theorem pX.keep (h:pX S w oo oc fo fc wo wc old p) (d: ∀b,S b->b<w.heap.size) (e:dN w.heap.size w w'):pX S w' oo oc fo fc wo wc old p:=h.same (fun b k=>e.block b (d b k)) fun _ k=>k
def Co (r:Option (Nd×kq)) (n:Nd) (q:kq) (full:Bool):Prop:=match r with|none=>full=dI|some x=>full=dO/\n=x.1/\q=x.2
def Ab (S:Nat->Prop) (w:dH) (old:List Nd) (r:Option (Nd×kq)) (e:Ending) (w':dH):Prop:=
 dN w.heap.size w w'/\ ∃(n':Nd) (q:kq) (full:Bool) (po:Option Addr) (pc:Nat) (ko:Option Addr) (kc:Nat) (oo:Option Addr) (oc:Nat) (fo:Option Addr) (fc:Nat) (wo:Option Addr) (wc:Nat),
  e= .returned (.tuple #[hE (il po pc ko kc n').toArray, hE (rU oo oc fo fc wo wc old q full).toArray])/\Co r n' q full/\
  jf (fun b=>S b\/(w.heap.size<=b/\b<w'.heap.size)) w' (il po pc ko kc n') n'/\pX (fun b=>S b\/(w.heap.size<=b/\b<w'.heap.size)) w' oo oc fo fc wo wc old q
def Ac (r:Option (List Nd×kq)) (KS:List Nd) (q:kq) (full:Bool):Prop:=match r with|none=>full=dI|some x=>full=dO/\KS=x.1/\q=x.2
theorem Ac.next {r:Option (List Nd×kq)} {B C:kq} {e np:Bool} {u A:Nd} {D:Option (Nd×kq)} (h:Ac r KS B e) (g:(if e then dE else l7 look u B)=D) (d:Co D A C np):
  Ac (r.bind fun x=>(l7 look u x.2).map fun y=>(x.1++[y.1],y.2)) (KS++[A]) C np:=by
 cases r with
 | none=>have h:e=true:=h;subst h;subst g;exact d
 | some x=>
  obtain⟨rfl,rfl,rfl⟩:=h;simp only[ei,if_false] at g;subst g;simp only[Option.bind_some];cases z:l7 look u x.2 with
  | none=>rw[z] at d;exact d
  | some y=>rw[z] at d;obtain⟨rfl,rfl,rfl⟩:=d;exact⟨rfl,rfl,rfl⟩
theorem iM.vA (h:iM S b0 w v l) (e:Bx w b cs t) (g:95≠t):v.ownBlock≠dF b:=by
 obtain⟨_,_,d,_⟩:=h;exact nu d e g
theorem iM.set {u:dL} (h:iM S b0 w v l) (A:v.ownBlock≠dF c) (z: ∀b,S b->b≠c):iM S b0 (w.setCell ⟨c,j,dE⟩ u) v l:=by
 obtain⟨d,e,g,r⟩:=h;exact⟨d,e,oX (a:=⟨c,j,dE⟩) g A u,fun i a b=>(r i a b).same (fun b k=>dG _ ⟨c,j,dE⟩ _ _ (z b k.1)) fun _ k=>k⟩
structure Cp (w W8 Wf:dH) (N:Nat) (v0 v1 v2 v3:dL):Prop where
 box:Bx Wf N #[v0,v1,v2,v3] 174
 below:dN w.heap.size w Wf
 same: ∀b,b≠N->Wf.heap[b]?=W8.heap[b]?
 size:Wf.heap.size=W8.heap.size
theorem qX {r:dL} (x:Bx W8 N #[z0,z1,z2,r] 174) (v0 v1 v2 v3:dL) (g:dN w.heap.size w W8) (d:w.heap.size<=N):
  Cp w W8 ((((W8.setCell ⟨N,0,dE⟩ v0).setCell ⟨N,1,dE⟩ v1).setCell ⟨N,2,dE⟩ v2).setCell ⟨N,3,dE⟩ v3) N v0 v1 v2 v3:=
 ⟨x.kz,iT (iT (iT (iT g d) d) d) d,fun _ e=>
  (dG _ ⟨N,3,dE⟩ _ _ e).trans ((dG _ ⟨N,2,dE⟩ _ _ e).trans ((dG _ ⟨N,1,dE⟩ _ _ e).trans (dG _ ⟨N,0,dE⟩ _ _ e))),oC⟩
def rV (S:Nat->Prop) (old:List Nd) (r:Option (Nd×kq)):mS:=⟨fun x=> .tuple #[hE #[x.x 0,x.x 1,x.x 2], hE #[x.x 3,x.x 4,x.x 5,x.x 6]],
 fun x W=> ∃(n':Nd) (q:kq) (full:Bool) (po:Option Addr) (pc:Nat) (ko:Option Addr) (kc:Nat) (oo:Option Addr) (oc:Nat) (fo:Option Addr) (fc:Nat) (wo:Option Addr) (wc:Nat),
  (x.x 0= ht po n'.ps.length pc/\x.x 1= ht ko n'.gC.length kc/\x.x 2= gE ha n'.page/\x.x 3= ht oo old.length oc/\x.x 4= ht fo q.free.length fc/\x.x 5= ht wo q.ws.length wc/\x.x 6= .bool full)/\Co r n' q full/\
  jf (fun b=>S b\/(x.lo<=b/\b<x.hi)) W (il po pc ko kc n') n'/\pX (fun b=>S b\/(x.lo<=b/\b<x.hi)) W oo oc fo fc wo wc old q⟩
theorem yn {r:Option (Nd×kq)} (z: ∀b,S b->b<W.heap.size) (h:ez dP f args W (Ab S W old r)):
  ez dP f args W fun e w'=> ∃u,e= .returned u/\pR (rV S old r) W u w':=
 h.mono fun _ w' ⟨hb,n',q,full,po,pc,ko,kc,oo,oc,fo,fc,wo,wc,he,hv,h1,h2⟩=>⟨_,he,hb,fun i=>(il po pc ko kc n'++rU oo oc fo fc wo wc old q full)[i]?.getD eL,rfl,fun B d=>by
  have g: ∀b,(S b\/(W.heap.size<=b/\b<w'.heap.size))->b<w'.heap.size:=fun b k=>by
   have A:=hb.size;rcases k with k|k;. have:=z b k;omega
   . exact k.2
  exact⟨n',q,full,po,pc,ko,kc,oo,oc,fo,fc,wo,wc,⟨rfl,rfl,rfl,rfl,rfl,rfl,rfl⟩,hv,h1.keep g d,h2.keep g d⟩⟩
section
variable {P:eu} {ops:Array Oper} {md:dM} {sp:Nat->List Nat} {an:kg} {W0:dH} {i:Nat}
def qd (B:Nat) (t:dU) (z:Nat):mS:=⟨fun r=> ht (dF ⟨r.lo,0,dE⟩) 0 0,fun r W=>W.ownsRow B t z (ht (dF ⟨r.lo,0,dE⟩) 0 0) 0 []⟩
theorem Gw {t:dU} {z:Nat} (y:jv W0) (d: ∀j B s,iE md ops sp i j=dI->an j=dF B->B.Φ s y.w->B.Φ s (y.w.alloc (hF #[] t))):
  tK md ops sp an W0 i (qd W0.heap.size t z) y.w (ht (dF ⟨y.w.heap.size,0,dE⟩) 0 0) (y.w.alloc (hF #[] t)):=
 ⟨(et _ _).alloc y.h.size _,fun _=>eL,rfl,tu _ _ _ _ _ rfl y.h.size,d⟩
theorem Gx {t:dU} {l:List dL} {n:Nat} (y:jv W0) (d: ∀j B s,iE md ops sp i j=dI->an j=dF B->B.Φ s y.w->B.Φ s (y.w.alloc (hF l.toArray t))):
  tK md ops sp an W0 i (p8 n l t) y.w (ht (dF ⟨y.w.heap.size,0,dE⟩) n n) (y.w.alloc (hF l.toArray t)):=
 ⟨(et _ _).alloc y.h.size _,fun _=>eL,rfl,Bx.new _ _ _,d⟩
theorem Gy {o:Oper} {a:Act} {w:dH} {v:dL} (d:(eS a.eval o).run P w= .ok (.value v) w):ix P o a w (tK md ops sp an W0 i (iw v) w):=by
 unfold ix;rw[d];exact⟨et _ _,fun _=>eL,rfl,trivial,fun _ _ _ _ _ h=>h⟩
def qY (B:Nat) (t:dU) (dl:Nat) (xs l:List dL) (e m f:Nat) (v:dL):kg:=fun i=>
 if i=0 then dF (qd B t 2) else if i=3 then dF (kf B t 2 (0+dl) ([]++xs)) else if i=e then dF (p8 1 l t) else if i=m then dF (kf B t 2 (0+dl+1) ([]++xs++l)) else if i=f then dF (iw v) else dE
def vB (e m:Nat):Nat->List Nat:=fun i=>if i=0 then [3] else if i=3 then [m] else if i=e then [m] else []
theorem uB {B:Nat} {t:dU} {z e m f:Nat} {v:dL} {xs l:List dL} {w w':dH} (C:iE md ops sp i 0=dO\/ ∀r,(qd B t 2).Φ r w->(qd B t 2).Φ r w') (D:iE md ops sp i 3=dO\/ ∀r,(kf B t 2 (0+z) ([]++xs)).Φ r w->(kf B t 2 (0+z) ([]++xs)).Φ r w')
  (E:iE md ops sp i e=dO\/ ∀r,(p8 1 l t).Φ r w->(p8 1 l t).Φ r w') (F:iE md ops sp i m=dO): ∀j u s,iE md ops sp i j=dI->qY B t z xs l e m f v j=dF u->u.Φ s w->u.Φ s w':=by
 intro j u s g d A;unfold qY at d;split at d;subst j;cases d;rcases C with h|h;rw[h] at g;cases g;exact h _ A;split at d;subst j;cases d;rcases D with h|h;rw[h] at g;cases g;exact h _ A;split at d;subst j;cases d;rcases E with h|h;rw[h] at g;cases g;exact h _ A;split at d;subst j;rw[F] at g;cases g;split at d;. cases d;trivial
 cases d
theorem NP {B:Nat} {t:dU} {w w':dH} {b c:Nat} {u v:dL} (h:w.ownsRow B t 2 (ht (dF ⟨b,0,dE⟩) 0 0) 0 []) (A:w.grownBy w' (dK (dF ⟨b,0,dE⟩) 0 0).ownBlock) (g:Bx w c #[u,v] t):Bx w' c #[u,v] t:=by
 refine g.grown A fun z=>?_;obtain rfl:c=b:=by simpa[ey] using z
 rcases h.2 with⟨d,_⟩|⟨E,C,D,d,-,e,-,-,r,-⟩;cases d;simp only[ew,eN,Addr.mk.injEq,and_true,true_and] at d;obtain⟨rfl,rfl⟩:=d;unfold Bx at g;rw[g] at e;simp only[eN,Obj.cells.injEq] at e;rw[<-e.1] at r;simp at r
end
end Go.Proofs.YtlefmmhlpgmbjaaGreat
