import Derived.Shelf.SlicesQ.IndexFunc
import Derived.Test.YtlefmmhlpgmbjaaGreatRows
import Derived.Lib.Hide
import Derived.Laws.CopyOwn
import Derived.Lib.ItoaNum
import Derived.WalkSpells
import Derived.Shelf.Small.Strs
import Derived.Shelf.Strings.Repeat
import Derived.Shelf.Strings.BuilderCap
import Derived.Shelf.Slices.Empties2
import Derived.RangeFuncNested
import Derived.RangeFuncBound
import Derived.LoopNIn
import Derived.LoopIn
import Derived.Maps.OwnIn
import Derived.Shelf.RegionOpen
import Derived.StillTailTactics
open Option renaming none->bz,some->bB
open Nat renaming le_refl->bA,zero_le->b2,reduceSub->cp,reduceAdd->cq
open Go.Proofs.Tryz renaming prog->bC,underlying3->bU,underlying9->cj,results83->ct,underlying22->cv,ntmps83->cx,zeroValue9->cy,func83->cA,underlying234->cE,underlying23->cF,zeroValue3->cM,sizeOf3->cU,ntmps92->cV,isAgg3->c0,func92->c4
open Go renaming World->bD,Value->bK,bodyPost_ret->bQ,grownBy_putObj'->bT,Calls->bW,TypeId->b3,results->b5,undef->cg,maxLen->cr,callsIn_wide->cB,Operand->cC,Program->cG,callsIn_of_wp->cK,wpList->cP,run_takeDeferred->cQ,plainElem->cR,Fence->cS,TypeInfo->cY,wpList_plain->da
open Go.RowKit.Below renaming refl->bE,heap_setCell->ca,setCell->cD,heap_alloc->cJ,alloc->cL,drew->c7
open Go.World renaming block_lt_of_cell?->bF,size_alloc->bP,grownBy_alloc->bZ,size_setCell->b9,putObj_heap_other->cb,putObj_heap_same->cT,cell?_of_block->cW,alloc_heap_new->cX,ownsRow_made->c5,ownsRow_nil->c8
open Go.RowKit renaming Below->bG
open List renaming drop_eq_getElem_cons->bH,getElem?_eq_getElem->bJ,replicate->bM,eq_nil_of_length_eq_zero->bR,length_nil->bV,append_toArray->b0,cons_append->b1,nil_append->b4,size_toArray->b6,push_toArray->b7,getElem_mem->ck,finRange->cm,mem_map->cH,foldl_cons->cN,getElem?_eq_none->cZ,take_add_one->db
open ByteArray renaming empty->bI,size_extract->cO,size->c6,ext->c9
open Array renaming getElem?_eq_some_iff->bL,replicate_zero->bX,replicate_succ->bY
open Go.KeepsOthers renaming setCell->bN
open Bool renaming false->bO,true->b8
open Int renaming eq_ofNat_of_zero_le->bS,toNat_natCast->cw,tmod_lt_of_pos->dc
open UInt8 renaming ofNat->cd
open Go.Value renaming string->ch,int->cI
open Option.some renaming inj->cu
open Go.Result renaming andThen->cz
open Go.Proofs.Tryz
set_option maxRecDepth 100000
set_option maxHeartbeats 4000000
open Go.Ending renaming returned->gE
open Go.Value renaming slice->ha,string->ht,bool->hA,pointer->hE,agg->hF,tuple->hG
open Go.Obj renaming cells->hI
namespace Go.RowKit
theorem Hid.o{p:Prop}(h:Hid p):p:=Hid.out h
end Go.RowKit
namespace Go.Proofs.YtlefmmhlpgmbjaaGreat
open Go.RowKit
variable {α:Type _}{p:Prop}{a b c:Nat}
theorem nM(a:α): ∃x,a=x:=⟨_,rfl⟩
theorem nP(a:α): ∃x,x=a:=⟨_,rfl⟩
theorem oM(h:p:=by omega):p:=h
theorem oP(h:p:=by kernel_rfl):p:=h
theorem oC(h:p:=by simp):p:=h
theorem oF(h:p:=by decide):p:=h
theorem oO(h:p:=by rfl):p:=h
theorem oN(h:p:=by simp; omega):p:=h
theorem oQ(h:p:=by go_num):p:=h
theorem gU:(∀(l:List α) (i:Nat) (a:α),l.toArray.setIfInBounds i a=(l.set i a).toArray)/\(∀(x:α) (l:List α) (a:α),(x::l).set 0 a=a::l)/\ ∀(x:α) (l:List α) (n:Nat) (a:α),(x::l).set (n+1) a=x::l.set n a:=⟨fun _ _ _=>List.setIfInBounds_toArray ..,fun _ _ _=>List.set_cons_zero,fun _ _ _ _=>List.set_cons_succ⟩
theorem jC:(∀(n:Nat) (x:α) (l:List α),(x::l).take (n+1)=x::l.take n)/\(∀l:List α,l.take 0=[])/\(∀(n:Nat) (x:α) (l:List α),(x::l).drop (n+1)=l.drop n)/\ ∀l:List α,l.drop 0=l:=⟨fun _ _ _=>List.take_succ_cons,fun _=>List.take_zero,fun _ _ _=>List.drop_succ_cons,fun _=>List.drop_zero⟩
theorem ki:(∀(l:List α) (i:Nat) (h:i<l.toArray.size),l.toArray[i]=l[i]'(by simpa using h))/\(∀(x:α) (l:List α) (i:Nat) (h:i+1<(x::l).length),(x::l)[i+1]=l[i]'(Nat.lt_of_succ_lt_succ h))/\ ∀(x:α) (l:List α) (h:0<(x::l).length),(x::l)[0]=x:=⟨fun _ _ _=>List.getElem_toArray _,fun _ _ _ _=>List.getElem_cons_succ ..,fun _ _ _=>List.getElem_cons_zero ..⟩
theorem gF (h:p):Hid p:=Lib.hid h
theorem gK {q:Prop} (h:p) (k:q):p/\q:=⟨h,k⟩
theorem iU (h:a<b) (k:b<=c):a<c:=Nat.lt_of_lt_of_le h k
theorem jU (h:a<=b) (k:b<=c):a<=c:=Nat.le_trans h k
theorem iI {l m:List α}:(l++m).length=l.length+m.length:=List.length_append
theorem j1 {x:α} {l:List α}:(x::l).length=l.length+1:=List.length_cons
theorem jD {x:α} {l m:List α}:x∈l++m↔x∈l\/x∈m:=List.mem_append
theorem j4 {x y:α} {l:List α}:x∈y::l↔x=y\/x∈l:=List.mem_cons
theorem lx {x y:α}:x∈[y]↔x=y:=List.mem_singleton
end Go.Proofs.YtlefmmhlpgmbjaaGreat
namespace Go.Proofs
open Go.Shelf
end Go.Proofs
namespace Go.Proofs.YtlefmmhlpgmbjaaGreat
open Go.RowKit
variable {B n b gM k pc cc:Nat}{w w':bD}{S:Nat->Prop}{a:Addr}{l xs:List bK}{e t:b3}{v v0 v1 v2 v3:bK}{cs:Array bK}{i p s:Int}{po co:Option Addr}
theorem Below.drewN (h:bG B w w') (n:Nat):bG B w (w'.drewN n):=⟨h.os,h.tape,h.output,h.size,h.block⟩
theorem uD {f h:bD} (j:bG B f h):(∀b o,b<B->h.cell? ⟨b,o,bz⟩=f.cell? ⟨b,o,bz⟩)/\(∀b o,b<B->h.frozen? ⟨b,o,bz⟩=f.frozen? ⟨b,o,bz⟩):=
 ⟨fun b o g=>j.cell (p:=⟨b,o,bz⟩) g,fun b o g=>j.frozen (p:=⟨b,o,bz⟩) g⟩
def jk (o:Option Addr) (n c:Nat):Prop:=(o=bz/\n=0/\c=0)\/(∃a,o=bB a/\n<=c/\c<=cr)
theorem jk.nil {o:Option Addr} {c:Nat} (h:jk o n c):o=bz->n=0/\c=0:=by
 intro e;rcases h with⟨_,h⟩|⟨a,h,_⟩;exact h;rw[e] at h;cases h
def nR (S:Nat->Prop) (w:bD):Prop:= ∀b,S b->b<w.heap.size
def Gr (S:Nat->Prop) (w w':bD) (b:Nat):Prop:=S b\/(w.heap.size<=b/\b<w'.heap.size)
theorem Gr.new (h:w.heap.size<=b) (f:b<w'.heap.size):Gr S w w' b:= .inr ⟨h,f⟩
theorem nR.gr (h:nR S w) (g:bG B w w'):nR (Gr S w w') w':=by
 rintro b (f|f);exact iU (h b f) g.size;exact f.2
def Same (S:Nat->Prop) (w w':bD):Prop:= ∀b,S b->w'.heap[b]?=w.heap[b]?
theorem Same.refl (S:Nat->Prop) (w:bD):Same S w w:=fun _ _=>rfl
theorem Same.set (h:Same S w w') (g: ¬S a.block) (v:bK):Same S w (w'.setCell a v):=fun b f=>(ca w' a v b fun e=>g (e▸f)).trans (h b f)
theorem Same.ic (h:bG B w w') (f: ∀b,S b->b<B):Same S w w':=fun b g=>h.block b (f b g)
theorem Same.cell (h:Same S w w') {p:Addr} (f:S p.block):w'.cell? p=w.cell? p:=cW (w:=w) (h p.block f)
def gO (S:Nat->Prop) (w:bD) (o:Option Addr) (l:List bK):Prop:=
 ∀j (h:j<l.length),∃b off,o=bB ⟨b,off,bz⟩/\w.cell? ⟨b,off+j,bz⟩=bB l[j]/\S b
theorem gO.below {o:Option Addr} (h:gO S w o l) (g:bG w.heap.size w w'):gO S w' o l:=by
 intro i j;obtain⟨b,r,m,f,q⟩:=h i j;exact⟨b,r,m,by rw[g.cell (bF w _ f)];exact f,q⟩
theorem gO.same {o:Option Addr} (h:gO S w o l) (g:Same S w w'):gO S w' o l:=by
 intro i m;obtain⟨b,r,q,j,f⟩:=h i m;exact⟨b,r,q,by rw[g.cell f];exact j,f⟩
theorem gO.mono {T:Nat->Prop} {o:Option Addr} (h:gO S w o l) (f: ∀b,S b->T b):gO T w o l:=by
 intro i j;obtain⟨b,r,m,g,q⟩:=h i j;exact⟨b,r,m,g,f b q⟩
theorem gO.nil (S:Nat->Prop) (w:bD) (o:Option Addr):gO S w o []:=by intro g f;exact absurd f oC
theorem gO.src {o:Option Addr} (h:gO S w o l): ∀f,o=bB f-> ∀j u,l[j]?=bB u->w.cell? (f.add j)=bB u:=by
 intro f e j u r;obtain⟨q,rfl⟩:=List.getElem?_eq_some_iff.1 r;obtain⟨b,x,g,m,_⟩:=h j q;rw[e] at g;obtain rfl:=cu g;rw[Addr.add_lit];exact m
theorem gO.cut {f:Nat} (h:gO S w (bB ⟨b,f,bz⟩) l) (k m:Nat):gO S w (bB ⟨b,f+k,bz⟩) ((l.drop k).take m):=by
 intro g r;have u:k+g<l.length:=by simp at r;omega
 obtain⟨j,j8,e,q,x⟩:=h (k+g) u;obtain⟨rfl,rfl⟩:b=j/\f=j8:=by simpa using e
 exact⟨b,f+k,rfl,by rw[Nat.add_assoc];simpa using q,x⟩
theorem nC {z:Nat} (h:w.ownsRow gM e z v n xs):
  ∃o c,v= ha o n c/\jk o n c/\gO (fun b=>gM<=b/\b<w.heap.size) w o xs/\(Value.slice o n c).ownBlock=v.ownBlock:=by
 rcases h.2 with⟨rfl,rfl⟩|⟨g,j,C,rfl,r,u,m,q,D,E⟩;have y:xs=[]:=bR (by simpa using h.1);subst y;exact⟨bz,0,rfl, .inl ⟨rfl,rfl,rfl⟩,gO.nil _ _ _,rfl⟩;refine⟨bB ⟨g,0,bz⟩,j,rfl, .inr ⟨_,rfl,m,q⟩,?_,rfl⟩;intro f x;refine⟨g,0,rfl,?_,r,(bL.1 u).1⟩;have:=h.cells (g:=g) rfl f xs[f] (by simp[x]);rw[Addr.add_lit] at this;exact this
theorem pP {g:Nat} (h:w.ownsRow gM e g v n xs) (r:bG B w w') (q: ∀k,v.ownBlock=bB k->k<B):w'.ownsRow gM e g v n xs:=by
 refine⟨h.1,?_⟩;rcases h.2 with y|⟨f,j,m,rfl,u,x,rest⟩;exact .inl y;refine .inr ⟨f,j,m,rfl,u,?_,rest⟩;rw[r.block f (q f rfl)];exact x
theorem nD {f:Nat} (h:w.ownsRow gM e f v n xs) (g:bG w.heap.size w w'):w'.ownsRow gM e f v n xs:=
 pP h g fun k j=>(h.lt k j).2
theorem Hp {g:Nat} {j:Nat} (h:w.heap[g]?=bB (hI #[] e (0,0))) (f:gM<=g):w.ownsRow gM e j (ha (bB ⟨g,0,bz⟩) 0 0) 0 []:=
 ⟨oC, .inr ⟨g,0,#[],rfl,f,h,bA _,by simp[cr],oC,oC⟩⟩
theorem tu (w:bD) (gM g:Nat) (e:b3) (j:Nat) (h:g=w.heap.size) (f:gM<=g):(w.alloc (hI #[] e)).ownsRow gM e j (ha (bB ⟨g,0,bz⟩) 0 0) 0 []:=by
 subst h;exact c5 w #[] 0 f (by simp[cr]) oC
theorem Am {f:Option Nat} {o:Nat} (g:w.grownBy w' f) (h:w.cell? ⟨b,o,bz⟩=bB v) (j:bB b≠f):w'.cell? ⟨b,o,bz⟩=bB v:=g.cell h j
def Bx (w:bD) (b:Nat) (cs:Array bK) (t:b3):Prop:=w.heap[b]?=bB (hI cs t (0,0))
theorem Bx.new (w:bD) (cs:Array bK) (t:b3):Bx (w.alloc (hI cs t)) w.heap.size cs t:=heap_alloc_new w _
theorem Bx.ir (w:bD) (cs:Array bK) (t:b3) (g:Nat) (f:g=w.heap.size):Bx (w.alloc (hI cs t)) g cs t:=f▸Bx.new w cs t
theorem Bx.lt (h:Bx w b cs t):b<w.heap.size:=(bL.1 h).1
theorem Bx.alloc (h:Bx w b cs t) (o:Obj):Bx (w.alloc o) b cs t:=(cJ w o b h.lt).trans h
theorem Bx.below (h:Bx w b cs t) (g:bG B w w') (f:b<B):Bx w' b cs t:=(g.block b f).trans h
theorem Bx.gD (h:Bx w b cs t) (f:bG w.heap.size w w'):Bx w' b cs t:=h.below f h.lt
theorem Bx.drew (h:Bx w b cs t):Bx w.drew b cs t:=h
theorem Bx.drewN (h:Bx w b cs t) (n:Nat):Bx (w.drewN n) b cs t:=h
theorem Bx.cell (h:Bx w b cs t) (k:Nat):w.cell? ⟨b,k,bz⟩=cs[k]?:=by
 unfold Bx at h;simp[World.cell?,h]
theorem Bx.free (h:Bx w b cs t) (k:Nat):w.frozen? ⟨b,k,bz⟩=false:=by
 unfold Bx at h;simp[World.frozen?,h]
theorem Bx.c2(h:Bx w b cs t):(∀k:Nat,w.cell? ⟨b,k,bz⟩=cs[k]?)/\b<w.heap.size:=⟨h.cell,h.lt⟩
theorem Bx.cf(h:Bx w b cs t):(∀k:Nat,w.cell? ⟨b,k,bz⟩=cs[k]?)/\ ∀k:Nat,w.frozen? ⟨b,k,bz⟩=false:=⟨h.cell,h.free⟩
theorem Bx.c3(h:Bx w b cs t):(∀k:Nat,w.cell? ⟨b,k,bz⟩=cs[k]?)/\b<w.heap.size/\ ∀k:Nat,w.frozen? ⟨b,k,bz⟩=false:=⟨h.cell,h.lt,h.free⟩
theorem Bx.set (h:Bx w b cs t) (k:Nat) (v:bK):Bx (w.setCell ⟨b,k,bz⟩ v) b (cs.setIfInBounds k v) t:=heap_setCell_same w b k cs t v h
theorem Bx.jc (h:Bx w b cs t) (f:b≠a.block) (v:bK):Bx (w.setCell a v) b cs t:=(ca w a v b f).trans h
theorem Bx.grown {f:Option Nat} (h:Bx w b cs t) (g:w.grownBy w' f) (j:bB b≠f):Bx w' b cs t:=(g.block b h.lt j).trans h
theorem gO.bx (h:Bx w b cs t):gO (· =b) w (bB ⟨b,0,bz⟩) cs.toList:=by
 intro g f;exact⟨b,0,rfl,by rw[h.cell];simp at f;simp[f],rfl⟩
theorem oX {f:Nat} (h:w.ownsRow gM e f v n xs) (g:v.ownBlock≠bB a.block) (u:bK):(w.setCell a u).ownsRow gM e f v n xs:=ownsRow_setCell_other h g u
theorem Same.alloc (h:Same S w w') (g:nR S w') (o:Obj):Same S w (w'.alloc o):=fun b f=>(cJ w' o b (g b f)).trans (h b f)
theorem Same.grown {w'':bD} {g:Option Nat} (h:Same S w w') (m:w'.grownBy w'' g) (j:nR S w') (q: ∀b,g=bB b-> ¬S b):Same S w w'':=
 fun b f=>(m.block b (j b f) fun e=>q b e.symm f).trans (h b f)
theorem nR.size (h:nR S w) (g:w.heap.size<=w'.heap.size):nR S w':=fun b f=>iU (h b f) g
theorem Same.kz (h:Same S w w') (f: ¬S b):
  Same S w ((((w'.setCell ⟨b,0,bz⟩ v0).setCell ⟨b,1,bz⟩ v1).setCell ⟨b,2,bz⟩ v2).setCell ⟨b,3,bz⟩ v3):=
 (((h.set (a:=⟨b,0,bz⟩) f _).set (a:=⟨b,1,bz⟩) f _).set (a:=⟨b,2,bz⟩) f _).set (a:=⟨b,3,bz⟩) f _
theorem Same.pQ (h:Same S w w') (f: ¬S b):Same S w (w'.setCell ⟨b,k,bz⟩ v):=h.set (a:=⟨b,k,bz⟩) f _
theorem nX (h:bG B w w') (f:B<=b):
  bG B w ((((w'.setCell ⟨b,0,bz⟩ v0).setCell ⟨b,1,bz⟩ v1).setCell ⟨b,2,bz⟩ v2).setCell ⟨b,3,bz⟩ v3):=
 (((h.setCell (p:=⟨b,0,bz⟩) f _).setCell (p:=⟨b,1,bz⟩) f _).setCell (p:=⟨b,2,bz⟩) f _).setCell (p:=⟨b,3,bz⟩) f _
theorem iT (h:bG B w w') (f:B<=b):bG B w (w'.setCell ⟨b,k,bz⟩ v):=h.setCell (p:=⟨b,k,bz⟩) f _
theorem Bx.kz {f g j m:bK} (h:Bx w b #[f,g,j,m] t):
  Bx ((((w.setCell ⟨b,0,bz⟩ v0).setCell ⟨b,1,bz⟩ v1).setCell ⟨b,2,bz⟩ v2).setCell ⟨b,3,bz⟩ v3) b #[v0,v1,v2,v3] t:=by
 simpa using (((h.set 0 v0).set 1 v1).set 2 v2).set 3 v3
theorem Bx.nE {b':Nat} (h:Bx w b cs t) (f:b≠b'):
  Bx ((((w.setCell ⟨b',0,bz⟩ v0).setCell ⟨b',1,bz⟩ v1).setCell ⟨b',2,bz⟩ v2).setCell ⟨b',3,bz⟩ v3) b cs t:=
 (((h.jc (a:=⟨b',0,bz⟩) f _).jc (a:=⟨b',1,bz⟩) f _).jc (a:=⟨b',2,bz⟩) f _).jc (a:=⟨b',3,bz⟩) f _
theorem CK {f:Nat} (h:w.ownsRow gM e f v n xs) (g:b<gM) (u:bK):(w.setCell ⟨b,k,bz⟩ u).ownsRow gM e f v n xs:=
 ownsRow_setCell_below h (a:=⟨b,k,bz⟩) g u
theorem nu {q:Nat} (h:w.ownsRow gM e q v n xs) (f:Bx w b cs t) (m:e≠t):v.ownBlock≠bB b:=by
 intro g;rcases h.2 with⟨rfl,_⟩|⟨x,r,u,rfl,_,j,_⟩;simp[Value.ownBlock] at g;simp[Value.ownBlock] at g;subst g;unfold Bx at f;rw[j] at f;simp at f;exact m f.2
theorem CL {g:Nat} (h:w.ownsRow gM e g v n xs) (f:v.ownBlock≠bB b):
  ((((w.setCell ⟨b,0,bz⟩ v0).setCell ⟨b,1,bz⟩ v1).setCell ⟨b,2,bz⟩ v2).setCell ⟨b,3,bz⟩ v3).ownsRow gM e g v n xs:=
 oX (oX (oX (oX h (a:=⟨b,0,bz⟩) f _) (a:=⟨b,1,bz⟩) f _) (a:=⟨b,2,bz⟩) f _) (a:=⟨b,3,bz⟩) f _
theorem Same.qD {g:Option Nat} (j:w.grownBy w' g) (h:nR S w) (m: ∀b,g=bB b-> ¬S b):Same S w w':=
 fun b f=>j.block b (h b f) fun e=>m b e.symm f
section
variable {S:Nat->Prop} {P:cG} {ops:Array Oper} {rest:List Oper} {o:Oper} {a:Act} {Q:Exit->Act->bD->Prop} {w:bD}
theorem Ao {K:Act->bD->Prop} (s x:cC) (t:b3)
  (E:o.op=Op.call { callee:=Callee.builtin Builtin.append,args:=#[s,x],argTypes:=#[t,t] })
  (gM:Nat) (e:b3) (i:cY) (y:bK) (f q:Nat) (H:P.underlying t=bB (.slice e)) (C:P.info? e=bB i) (aa:i.zero=bB y)
  (Y:i.size=f) (U:i.bytes=q) (ab:y.cells.size=f) (Z:0<f)
  (v:bK) (n:Nat) (xs:List bK) (G:a.eval s=v) (u:w.ownsRow gM e f v n xs)
  (j:Option Addr) (g c:Nat) (h:List bK) (I:a.eval x= ha j g c) (W:j=bz->g=0/\c=0) (D:h.length=g * f) (r:gO S w j h) (J: ∀ac∈h,ac.oneCell'=b8)
  (O:n+g<=cr) (V:(n+g) * q<=140737488355328) (R:gM<=w.heap.size)
  (hK: ∀m w',w'.ownsRow gM e f m (n+g) (xs++h)->w.grownBy w' v.ownBlock->K (a.put o.dst m) w'):
  o.wp P a w K Q:=by
 cases j with
 | some z=>exact wp_append_own w s x t E gM e i y f q H C aa Y U ab Z v n xs G u z g c h I D (r.src z rfl) J O V R fun m w' L M _=>hK m w' L M
 | none=>obtain⟨rfl,rfl⟩:=W rfl;have r:h=[]:=bR (by simpa using D);subst r;have X:=run_append_owned_none (P:=P) w gM t o.type e i f H C v n xs u;unfold Oper.wp;simp[execOp,E,resolve,invoke,builtin,G,I,X,cz];exact hK _ _ (by simpa using u) (World.grownBy.refl _ _)
theorem Ap {K:Act->bD->Prop} {E:Prop} (G:o.guard=bz) (s x:cC) (t:b3)
  (M:o.op=Op.call { callee:=Callee.builtin Builtin.append,args:=#[s,x],argTypes:=#[t,t] })
  (gM:Nat) (e:b3) (i:cY) (q:bK) (g m:Nat) (W:P.underlying t=bB (.slice e)) (H:P.info? e=bB i) (Y:i.zero=bB q)
  (U:i.size=g) (C:i.bytes=m) (Z:q.cells.size=g) (V:0<g)
  (v:bK) (n:Nat) (xs:List bK) (R:a.eval s=v) (O:w.ownsRow gM e g v n xs)
  (j:Option Addr) (f c:Nat) (h:List bK) (X:a.eval x= ha j f c) (L:j=bz->f=0/\c=0) (I:h.length=f * g) (J:gO S w j h) (u: ∀aa∈h,aa.oneCell'=b8)
  (y:n+f<=cr) (D:(n+f) * m<=140737488355328) (z:gM<=w.heap.size)
  (hK: ∀r w',w'.ownsRow gM e g r (n+f) (xs++h)->w.grownBy w' v.ownBlock->K (a.put o.dst r) w'):
  if Region.wanted o (yielded ops a.tmps)=b8 then Oper.wp P o a w K Q else E:=by
 rw[if_pos (by simp[Region.wanted,G])];exact Ao s x t M gM e i q g m W H Y U C Z V v n xs R O j f c h X L I J u y D z hK
theorem o8 (I:o.guard=bz) (s x:cC) (t:b3)
  (R:o.op=Op.call { callee:=Callee.builtin Builtin.append,args:=#[s,x],argTypes:=#[t,t] })
  (gM:Nat) (e:b3) (i:cY) (r:bK) (g q:Nat) (Y:P.underlying t=bB (.slice e)) (J:P.info? e=bB i) (aa:i.zero=bB r)
  (W:i.size=g) (G:i.bytes=q) (ab:r.cells.size=g) (X:0<g)
  (v:bK) (n:Nat) (xs:List bK) (V:a.eval s=v) (U:w.ownsRow gM e g v n xs)
  (j:Option Addr) (f c:Nat) (h:List bK) (Z:a.eval x= ha j f c) (O:j=bz->f=0/\c=0) (L:h.length=f * g) (M:gO S w j h) (u: ∀ac∈h,ac.oneCell'=b8)
  (C:n+f<=cr) (H:(n+f) * q<=140737488355328) (E:gM<=w.heap.size)
  (hK: ∀m w',w'.ownsRow gM e g m (n+f) (xs++h)->w.grownBy w' v.ownBlock->cP P ops Q rest (a.put o.dst m) w'):
  cP P ops Q (o::rest) a w:=
 da I fun _ D=>Ao s x t R gM e i r g q Y J aa W G ab X v n xs V U j f c h Z O L M u C H E fun m w' y z=>D _ _ (hK m w' y z)
def lH (l:List UInt8):List bK:=l.map fun u=>cI .u8 (u.toNat:Int)
theorem CM (l:List UInt8): ∀u∈lH l,u.oneCell'=true:=by
 intro u f;obtain⟨_,_,rfl⟩:=cH.1 f;rfl
theorem CN (l:List UInt8):strOfNums (l.map fun u=>(u.toNat:Int))=⟨l.toArray⟩:=by
 unfold strOfNums;congr 2;rw[List.map_map]
 conv=>rhs;rw[<-List.map_id l]
 apply List.map_congr_left;intro u _;simp
theorem wL (I:o.guard=bz) (x:cC) (g f e:b3) (L:o.op= .convert g f x) (y:P.underlying g=bB (.slice e)) (q:P.underlying e=bB (.int .u8)) (m:P.underlying f=bB .string)
  (h:Option Addr) (n c:Nat) (l:List UInt8) (O:a.eval x= ha h n c) (r:l.length=n) (u:gO S w h (lH l))
  (hK:cP P ops Q rest (a.put o.dst (ht ⟨l.toArray⟩)) w):cP P ops Q (o::rest) a w:=by
 refine da I fun K G=>?_;have M:(convert g f (ha h n c)).run P w= .ok (ht ⟨l.toArray⟩) w:=by
  cases h with
  | none=>
   have:l=[]:=by
    cases l with
    | nil=>rfl
    | cons x l=>obtain⟨b,z,j,_⟩:=u 0 (by simp[lH]);cases j
   subst this;rw[run_convert_bytes_nil w g e y q _ _ f m];rfl
  | some U=>
   cases l with
   | nil=>subst r;rw[run_convert_bytes_string w g f e _ _ _ y q m];simp[Conv.bytesToString];rfl
   | cons C l=>
    obtain⟨b,z,j,_⟩:=u 0 (by simp[lH]);obtain rfl:=cu j;rw[run_convert_bytes_arg w g e y q b z n c ((C::l).map fun R=>(R.toNat:Int)) (by simpa using r) (fun i V=>?_) f m,CN];obtain⟨D,j8,E,H,_⟩:=u i (by simp[lH] at r |-; omega);obtain⟨rfl,rfl⟩:b=D/\z=j8:=by simpa using E
    have J:i<(C::l).length:=oM
    rw[H];simp only[lH,List.getElem_map];rw[List.getD,List.getElem?_map,bJ J];rfl
 unfold Oper.wp;simp[execOp,L,O,M,cz];exact G _ _ hK
end
section
variable {S:Nat->Prop} {P:cG} {ops:Array Oper} {rest:List Oper} {o:Oper} {a:Act} {Q:Exit->Act->bD->Prop} {w:bD}
theorem CO (z:bK) (n:Nat):madeCells #[z] n=(bM n z).toArray:=by
 rw[<-toList_madeCells_one]
theorem CQ (u:o.guard=bz) (l c:cC) (t:b3) (C:o.op=Op.makeSlice t l c)
  (e:b3) (i:cY) (z:bK) (g:Nat) (E:P.underlying t=bB (.slice e)) (x:P.info? e=bB i) (G:i.zero=bB z) (D:i.size=1) (q:i.bytes=g) (H:z.cells=#[z])
  (n:Nat) (y:a.eval l= .int .i64 n) (r:a.eval c= .int .i64 n) (J:g * n<=281474976710656) (I:n<=9223372036854775807)
  (hK: ∀w',Bx w' w.heap.size (bM n z).toArray e->w.grownBy w' bz->w'.heap.size=w.heap.size+1->cP P ops Q rest (a.put o.dst (ha (bB ⟨w.heap.size,0,bz⟩) n n)) w'):
  cP P ops Q (o::rest) a w:=by
 refine da u fun K j=>?_;have m:(i.bytes:Int) * (n:Int)<=281474976710656:=by
  have h:((i.bytes * n:Nat):Int)<=281474976710656:=by rw[q];omega
  rwa[Int.natCast_mul] at h
 have f:=run_make (P:=P) w t e i z E x G .i64 .i64 n n oM (Int.le_refl _) m oM;rw[D,H,Nat.mul_one,CO] at f;simp only[cw] at f;unfold Oper.wp;simp[execOp,C,y,r,f,cz];exact j _ _ (by simpa using hK _ (Bx.new w _ _) (bZ w _ bz) (bP _ _))
theorem Hq (z:o.guard=bz) (d s:cC) (h u:b3)
  (C:o.op= .call { callee:= .builtin .copy,args:=#[d,s],argTypes:=#[h,u] }) (j:b3) (H:P.underlying h=bB (.slice j)) (G:(P.info? j).map (·.size)=bB 1)
  (f n m x:Nat) (I:Option Addr) (g cs:List bK) (t:b3) (y:a.eval d= ha (bB ⟨f,0,bz⟩) n m) (E:a.eval s= ha I n x)
  (r:Bx w f g.toArray t) (U:g.length=n) (q:cs.length=n) (D:gO S w I cs) (M: ∀v∈cs,v.oneCell'=b8)
  (hK: ∀w',Bx w' f cs.toArray t->w.grownBy w' (bB f)->cP P ops Q rest (a.put o.dst (goInt n)) w'):
  cP P ops Q (o::rest) a w:=by
 by_cases L:n=0
 subst L;obtain rfl:cs=[]:=bR q;obtain rfl:g=[]:=bR U;exact wpList_copy_nothing z d s h u C j H G _ _ 0 m 0 x y E rfl (hK w r (World.grownBy.refl _ _));obtain⟨b,W,rfl,_⟩:=D 0 oM;have V:=D.src _ rfl;refine wpList_copy_own z d s h u C j H G f 0 n m _ n x y E g.toArray t r cs (by simp[q]) V oN M ?_;have J:cs++g.drop n=cs:=by rw[List.drop_of_length_le oM,List.append_nil]
 have O:=hK (w.setRow f cs.toArray) (setRow_heap w f _ _ t _ r) ⟨rfl,rfl,rfl,by simp[World.setRow],fun k _ R=>setRow_other w f k _ fun e=>R (by simp[e])⟩;rw[q];simpa[J] using O
end
structure PW where
 page:Int
 data:ByteArray
structure ik where
 size:Int
 gG:List ByteArray
 gH:List PW
 left:Int
def mW (S:Nat->Prop) (w:bD) (o:Option Addr) (l:List ByteArray):Prop:=
 ∀i (h:i<l.length),∃b off,o=bB ⟨b,off,bz⟩/\w.cell? ⟨b,off+i,bz⟩=bB (ht l[i])/\S b
def iV (S:Nat->Prop) (w:bD) (o:Option Addr) (l:List PW):Prop:=
 ∀i (h:i<l.length),∃b off,o=bB ⟨b,off,bz⟩/\w.cell? ⟨b,off+i * 2,bz⟩=bB (.int .i64 l[i].page)/\w.cell? ⟨b,off+i * 2+1,bz⟩=bB (ht l[i].data)/\S b
def mi (l:List PW):List bK:=l.flatMap fun x=>[.int .i64 x.page, ht x.data]
theorem wM (l:List PW):(mi l).length=l.length * 2:=by
 induction l with
 | nil=>rfl
 | cons g l f=>simp only[mi,List.flatMap_cons,iI,j1,bV] at *; omega
theorem Aq (l m:List PW):mi (l++m)=mi l++mi m:=by simp[mi]
theorem CR (l:List PW): ∀i (h:i<l.length),(mi l)[i * 2]?=bB (.int .i64 l[i].page)/\(mi l)[i * 2+1]?=bB (ht l[i].data):=by
 induction l with
 | nil=>intro i h;simp at h
 | cons g l f=>
  intro i h;cases i with
  | zero=>simp[mi]
  | succ i=>
   have:=f i (by simpa using h);have e:(i+1) * 2=i * 2+2:=oM
   rw[e];simpa[mi] using this
theorem yE (l:List PW): ∀u∈mi l,u.oneCell'=true:=by
 intro u g;obtain⟨h,_,f⟩:=List.mem_flatMap.1 g;simp at f;rcases f with rfl|rfl<;>rfl
theorem iV.js {o:Option Addr} {l:List PW} (h:gO S w o (mi l)):iV S w o l:=by
 intro i x;have z:=wM l;obtain⟨g,j⟩:=CR l i x;obtain⟨b,m,e,r,y⟩:=h (i * 2) oM;obtain⟨q,j8,f,u,_⟩:=h (i * 2+1) oM;rw[e] at f;obtain⟨rfl,rfl⟩:b=q/\m=j8:=by simpa using f
 refine⟨b,m,e,by rw[r];rw[bJ oM] at g;exact g,?_,y⟩;rw[Nat.add_assoc,u];rw[bJ oM] at j;exact j
theorem iV.row {o:Option Addr} {l:List PW} (h:iV S w o l):gO S w o (mi l):=by
 intro j x;have D:=wM l;have u:j / 2<l.length:=oM
 obtain⟨m,q⟩:=CR l (j / 2) u;obtain⟨b,g,e,r,y,C⟩:=h (j / 2) u;refine⟨b,g,e,?_,C⟩;rcases Nat.mod_two_eq_zero_or_one j with z|z;have f:j / 2 * 2=j:=oM
 rw[f] at r m;rw[r, <-m,bJ x];have f:j / 2 * 2+1=j:=oM
 rw[f] at q;rw[show g+j=g+j / 2 * 2+1 by omega,y, <-q,bJ x]
theorem mW.js {o:Option Addr} {l:List ByteArray} (h:gO S w o (l.map .string)):mW S w o l:=by
 intro i g;obtain⟨b,m,e,f,j⟩:=h i (by simpa using g);exact⟨b,m,e,by simpa using f,j⟩
theorem mW.row {o:Option Addr} {l:List ByteArray} (h:mW S w o l):gO S w o (l.map .string):=by
 intro i g;obtain⟨b,m,e,f,j⟩:=h i (by simpa using g);exact⟨b,m,e,by simpa using f,j⟩
section
variable {S T:Nat->Prop} {w w':bD} {o:Option Addr}
theorem mW.below {l:List ByteArray} (h:mW S w o l) (f:bG w.heap.size w w'):mW S w' o l:= .js (h.row.below f)
theorem mW.same {l:List ByteArray} (h:mW S w o l) (f:Same S w w'):mW S w' o l:= .js (h.row.same f)
theorem mW.mono {l:List ByteArray} (h:mW S w o l) (f: ∀b,S b->T b):mW T w o l:= .js (h.row.mono f)
theorem iV.below {l:List PW} (h:iV S w o l) (f:bG w.heap.size w w'):iV S w' o l:= .js (h.row.below f)
theorem iV.same {l:List PW} (h:iV S w o l) (f:Same S w w'):iV S w' o l:= .js (h.row.same f)
theorem iV.mono {l:List PW} (h:iV S w o l) (f: ∀b,S b->T b):iV T w o l:= .js (h.row.mono f)
end
theorem CS (l:List ByteArray): ∀u∈l.map ch,u.oneCell'=true:=by
 intro u f;obtain⟨g,_,rfl⟩:=cH.1 f;rfl
structure mG (d:ik) (po co:Option Addr) (pc cc:Nat):Prop where
 vE:jk po d.gG.length pc
 tM:jk co d.gH.length cc
 gG:d.gG.length<=140737488351232
 gH:d.gH.length<=140737488351232
 strs: ∀s∈d.gG,s.size<=140737488351232
 rC: ∀x∈d.gH,x.data.size<=140737488351232
 left: -9223372036854775808<=d.left/\d.left<=9223372036854775807
def ja (S:Nat->Prop) (w:bD) (v:bK) (d:ik):Prop:=
 ∃po pc co cc,v= hF #[.int .i64 d.size, ha po d.gG.length pc, ha co d.gH.length cc, .int .i64 d.left]/\mW S w po d.gG/\iV S w co d.gH/\mG d po co pc cc
section
variable {S T:Nat->Prop} {w w':bD} {v:bK} {d:ik}
theorem ja.below (h:ja S w v d) (f:bG w.heap.size w w'):ja S w' v d:=by
 obtain⟨po,pc,co,cc,e,j,g,m⟩:=h;exact⟨po,pc,co,cc,e,j.below f,g.below f,m⟩
theorem ja.same (h:ja S w v d) (f:Same S w w'):ja S w' v d:=by
 obtain⟨po,pc,co,cc,e,j,g,m⟩:=h;exact⟨po,pc,co,cc,e,j.same f,g.same f,m⟩
theorem ja.mono (h:ja S w v d) (f: ∀b,S b->T b):ja T w v d:=by
 obtain⟨po,pc,co,cc,e,j,g,m⟩:=h;exact⟨po,pc,co,cc,e,j.mono f,g.mono f,m⟩
end
def qf (w:bD) (b:Nat) (size left:Int) (po co:Option Addr) (pn pc cn cc:Nat):Prop:=
 w.cell? ⟨b,0,bz⟩=bB (.int .i64 size)/\w.cell? ⟨b,1,bz⟩=bB (ha po pn pc)/\w.cell? ⟨b,2,bz⟩=bB (ha co cn cc)/\w.cell? ⟨b,3,bz⟩=bB (.int .i64 left)
def qy (p s:Int):Bool:=decide (1<=p)&&decide (p<=2000)&&decide (1<=s)&&decide (s<=512)
def mA (size:Int):List ByteArray->Bool
 | []=>b8
 | s::r=>decide ((s.size:Int)=size)&&mA size r
def lI (n:Nat) (size:Int):List PW->Int
 | []=>0
 | x::r=>if x.page<0\/n<=x.page then 2 else if (x.data.size:Int)≠size then 10 else lI n size r
def iW (d:ik):Int:=
 if qy d.gG.length d.size=bO then 2
 else if mA d.size d.gG=bO then 10
 else if lI d.gG.length d.size d.gH≠0 then lI d.gG.length d.size d.gH
 else if d.left< -1 then 2 else 0
theorem CT {f:Int} {l:List ByteArray} (h:k<l.length) (g:((l[k].size:Int)!=f)=b8):mA f (l.drop k)=false:=by
 rw[bH h];simp[mA];intro e;simp[e] at g
theorem CU {f:Int} {l:List ByteArray} (h:k<l.length) (g:((l[k].size:Int)!=f)=bO):mA f (l.drop k)=mA f (l.drop (k+1)):=by
 rw[bH h];simp[mA];intro _;simpa using g
theorem CV {g:Int} {l:List PW} (h:k<l.length) (f:decide (l[k].page<0)=b8):lI n g (l.drop k)=2:=by
 rw[bH h];have:=of_decide_eq_true f;rw[lI,if_pos (Or.inl this)]
theorem CW {g:Int} {l:List PW} (h:k<l.length) (f:decide ((n:Int)<=l[k].page)=b8):lI n g (l.drop k)=2:=by
 rw[bH h];have:=of_decide_eq_true f;rw[lI,if_pos (Or.inr this)]
theorem CX {j:Int} {l:List PW} (h:k<l.length) (f:decide (l[k].page<0)=bO) (g:decide ((n:Int)<=l[k].page)=bO) (m:((l[k].data.size:Int)!=j)=b8):lI n j (l.drop k)=10:=by
 rw[bH h];have f:=of_decide_eq_false f;have g:=of_decide_eq_false g;rw[lI,if_neg fun h=>h.elim f g,if_pos (by simpa using m)]
theorem CY {j:Int} {l:List PW} (h:k<l.length) (f:decide (l[k].page<0)=bO) (g:decide ((n:Int)<=l[k].page)=bO) (m:((l[k].data.size:Int)!=j)=bO):lI n j (l.drop k)=lI n j (l.drop (k+1)):=by
 rw[bH h];have f:=of_decide_eq_false f;have g:=of_decide_eq_false g;rw[lI,if_neg fun h=>h.elim f g,if_neg (by simpa using m)]
def uE (p s:Int):Int:=if p.tmod (s+1)<0 then - (p.tmod (s+1)) else p.tmod (s+1)
def sr (gP:List Int) (k:Nat) (s:Int):Int:=if h:k<gP.length then uE gP[k] s else 0
theorem Ar (p s:Int) (h:0<=s):0<=uE p s/\uE p s<=s:=by
 unfold uE;have f:=dc p (b:=s+1) oM;have g: -(s+1)<p.tmod (s+1):=by have:=dc (-p) (b:=s+1) oM;rw[Int.neg_tmod] at this;omega
 split<;>omega
theorem Au (gP:List Int) (k:Nat) (s:Int) (f:0<=s):0<=sr gP k s/\sr gP k s<=s:=by
 unfold sr;split;exact Ar _ _ f;omega
def jl (i:Int):List PW->ByteArray->ByteArray
 | [],s=>s
 | x::r,s=>jl i r (if x.page=i then x.data else s)
theorem Hr {l:List PW} (h:k<l.length) (s:ByteArray) (e:(l[k].page==i)=b8):jl i (l.drop k) s=jl i (l.drop (k+1)) l[k].data:=by
 rw[bH h,jl,if_pos (by simpa using e)]
theorem Hs {l:List PW} (h:k<l.length) (s:ByteArray) (e:(l[k].page==i)=bO):jl i (l.drop k) s=jl i (l.drop (k+1)) s:=by
 rw[bH h,jl,if_neg (by simpa using e)]
def nv (d:ik) (i:Nat) (h:i<d.gG.length):ByteArray:=jl i d.gH d.gG[i]
def o9 (d:ik):List ByteArray:=(List.range d.gG.length).attach.map fun i=>nv d i.1 (List.mem_range.1 i.2)
def lO (d:ik) (i:Int):ByteArray×Int:=
 if iW d≠0 then (bI,1) else if i<0 then (bI,2)
 else if h:i.toNat<d.gG.length then (nv d i.toNat h,0) else (bI,2)
def jt (d:ik):ik:={ d with left:=if 0<d.left then d.left - 1 else d.left }
def jX:ik:=⟨0,[],[],0⟩
def mN (p s:Int):ik×Int:=if qy p s then (⟨s,bM p.toNat ⟨(bM s.toNat 0).toArray⟩,[],-1⟩,0) else (jX,2)
def mR (d:ik) (i:Int) (data:ByteArray):ik×Int:=
 if iW d≠0 then (jX,1) else if i<0\/(d.gG.length:Int)<=i then (jX,2) else if (data.size:Int)≠d.size then (jX,10)
 else if d.left=0 then (d,18) else ({ jt d with gH:=d.gH++[⟨i,data⟩] },0)
def ow (d:ik):ik×Int:=
 if iW d≠0 then (jX,1) else if d.left=0 then (d,18) else (⟨d.size,o9 d,[],(jt d).left⟩,0)
def mX (n:Nat) (data page:ByteArray):ByteArray:=data.extract 0 n++page.extract n page.size
def nG (gP:List Int) (size:Int):Nat->List PW->List ByteArray->List ByteArray
 | _,[],ps=>ps
 | k,x::r,ps=>nG gP size (k+1) r (ps.set x.page.toNat (mX (sr gP k size).toNat x.data (ps.getD x.page.toNat bI)))
def ma (d:ik) (gP:List Int):ik:=
 if iW d≠0 then jX else ⟨d.size,nG gP d.size 0 d.gH d.gG,[],-1⟩
theorem Ht {size:Int} {l:List ByteArray} (h:mA size l=b8): ∀s∈l,(s.size:Int)=size:=by
 induction l with
 | nil=>intro s f;cases f
 | cons j l g=>simp[mA] at h;intro s f;rcases j4.1 f with rfl|f;exact h.1;exact g h.2 s f
theorem Hu {size:Int} {l:List PW} (h:lI n size l=0): ∀x∈l,0<=x.page/\x.page<n/\(x.data.size:Int)=size:=by
 induction l with
 | nil=>intro s g;cases g
 | cons m l j=>rw[lI] at h;split at h;cases h;split at h;cases h;intro x f;rcases j4.1 f with rfl|f;omega;exact j h x f
theorem nY {d:ik} (h:iW d=0):qy d.gG.length d.size=b8/\(∀s∈d.gG,(s.size:Int)=d.size)/\(∀x∈d.gH,0<=x.page/\x.page<d.gG.length/\(x.data.size:Int)=d.size)/\ -1<=d.left:=by
 unfold iW at h;split at h;cases h;rename_i g;split at h;cases h;rename_i j;split at h;rename_i f;exact absurd h f;rename_i f;split at h;cases h;exact⟨by simpa using g,Ht (by simpa using j),Hu (by simpa using f),oM⟩
theorem pd (h:qy p s=b8):1<=p/\p<=2000/\1<=s/\s<=512:=by simp[qy] at h;omega
def qE (S:Nat->Prop) (w:bD) (d:ik) (b:Bool) (e:Ending) (w':bD):Prop:= ∃v,e= gE (hG #[v, hA b])/\ja (Gr S w w') w' v d/\bG w.heap.size w w'
def lq (S:Nat->Prop) (w:bD) (d:ik) (er:Int) (e:Ending) (w':bD):Prop:= ∃v,e= gE (hG #[v, .int .i64 er])/\ja (Gr S w w') w' v d/\bG w.heap.size w w'
def tN (S:Nat->Prop) (w:bD) (d:ik) (e:Ending) (w':bD):Prop:= ∃v,e= gE v/\ja (Gr S w w') w' v d/\bG w.heap.size w w'
abbrev bs (l:List UInt8):ByteArray:=⟨l.toArray⟩
theorem q7 (l:List UInt8):(bs l).data.toList=l:=oC
theorem pz (s:ByteArray):bs s.data.toList=s:=by cases s;simp
theorem lM (l:List UInt8):(bs l).size=l.length:=by simp[c6]
theorem q8 (l m:List UInt8):bs l++bs m=bs (l++m):=by
 apply c9;simp
theorem yF {l m:List UInt8} (h:bs l=bs m):l=m:=by
 have:=congrArg (fun s:ByteArray=>s.data.toList) h;simpa using this
theorem vF (l:List UInt8) (a b:Nat):(bs l).extract a b=bs ((l.drop a).take (b - a)):=by
 apply c9;apply Array.ext';simp
def jh (n:Nat):List UInt8:=[cd (n / 72057594037927936),cd (n / 281474976710656),cd (n / 1099511627776),cd (n / 4294967296),cd (n / 16777216),cd (n / 65536),cd (n / 256),cd n]
def be (l:List UInt8):Nat:=l.foldl (fun a b=>a * 256+b.toNat) 0
def mB (n:Nat):Int:=if 1099511627776<n then -1 else n
def jd (size v n:Nat):List UInt8:=jh v++jh n++bM (size - 24) 0++jh v
def sH (s:List UInt8) (k:Nat) (Av:Int):Option (Nat×Nat):=
 if 1<=be (s.take 8)/\be (s.take 8)<=1099511627776/\be (s.take 8) % 2=k/\(be ((s.drop 8).take 8):Int)<=Av/\be ((s.drop 8).take 8)<=1099511627776/\s=jd s.length (be (s.take 8)) (be ((s.drop 8).take 8))
 then bB (be (s.take 8),be ((s.drop 8).take 8)) else bz
def gQ (d:ik) (i:Int):List UInt8:=(lO d i).1.data.toList
def mY:Option (Nat×Nat)->Option (Nat×Nat)->Nat×Nat
 | none,bz=>(0,0)
 | none,bB y=>y
 | some x,bz=>x
 | some x,bB y=>if x.1<y.1 then y else x
inductive lJ where
 | wr (i:Int) (data:ByteArray)
 | fl
def mZ (d:ik):lJ->ik×Int
 | .wr i data=>mR d i data
 | .fl=>ow d
def gR:ik->List lJ->ik×Int
 | d,[]=>(d,0)
 | d,o::r=>if (mZ d o).2≠0 then mZ d o else gR (mZ d o).1 r
theorem Hv (p s:Int) (w:bD):bW bC 86 #[.int .i64 p, .int .i64 s] w fun e w'=>
  e= gE (hA (qy p s))/\w=w':=by
 go_enter func86,ntmps86;go_wp2;all_goals go_ret
 all_goals simp[*,qy]
 all_goals omega
theorem CZ {b:Bool} (p s:Int) (w:bD) (f:qy p s=b):bW bC 86 #[.int .i64 p, .int .i64 s] w fun e w'=>
  e= gE (hA b)/\w=w':=by rw[<-f];exact Hv p s w
theorem Hw (h left:Int) (po co:Option Addr) (pc cc:Nat) (f:List ByteArray) (gH:List PW) (w:bD)
  (Z:mW S w po f) (X:iV S w co gH)
  (ac:f.length<=140737488351232) (ab:gH.length<=140737488351232):
  bW bC 48 #[hF #[.int .i64 h, ha po f.length pc, ha co gH.length cc, .int .i64 left]] w fun e w'=>
  e= gE (.int .i64 (iW ⟨h,f,gH,left⟩))/\bG w.heap.size w w':=by
 cases q:qy f.length h;. go_enter func48,ntmps48;go_wp2_with (go_at_call 86;refine(CZ _ _ _ q).mono ?_;rintro e w' ⟨rfl,rfl⟩);go_ret;exact⟨by simp[iW,q],(bE _ _).alloc (bA _) _⟩
 go_enter func48,ntmps48;go_wp2_with (go_at_call 86;refine(CZ _ _ _ q).mono ?_;rintro e w' ⟨rfl,rfl⟩)
 go_loopw [3] (fun i wr=> ∃k:Nat,k<=f.length/\i= .int .i64 k/\mA h (f.drop k)=mA h f/\bG w.heap.size w wr/\w.heap.size<wr.heap.size/\qf wr w.heap.size h left po co f.length pc gH.length cc) (fun i _=>f.length - (intOf i).toNat)
 case atStart=>exact⟨0,b2 _,rfl,rfl,(bE _ _).alloc (bA _) _,oC,oC,oC,oC,oC⟩
 case round=>
  obtain⟨k,U,rfl,u,g,x,E⟩:=hrel;have m:=gF u;clear u;have R:=gF E;obtain⟨y,z,C,D⟩:=E
  by_cases j:k<f.length
  .
   obtain⟨b,H,rfl,r,_⟩:=Z k j;have Y:wr.cell? ⟨b,H+k,bz⟩=bB (ht f[k]):=by rw[g.cell (bF w _ r)];exact r
   clear r;cases V:((f[k].size:Int)!=h);.
    go_wp2;go_quiet (fail);go_wp2;go_roundw;case rel=>exact⟨k+1,oM,oQ,by rw[<-CU j V];exact m.o,Below.drewN g _,by simpa using x,y,z,C,D⟩
    case measure=>simp[intOf];omega
   go_wp2;go_quiet (fail);go_wp2;go_ret;exact⟨by simp[iW,q, <-m.o,CT j V],Below.drewN g _⟩
  obtain rfl:k=f.length:=oM
  have G:mA h f=true:=by rw[<-m.o];simp[mA]
  clear j U;go_wp2
  go_loopw [4] (fun i wr=> ∃k:Nat,k<=gH.length/\i= .int .i64 k/\lI f.length h (gH.drop k)=lI f.length h gH/\bG w.heap.size w wr/\w.heap.size<wr.heap.size/\qf wr w.heap.size h left po co f.length pc gH.length cc) (fun i _=>gH.length - (intOf i).toNat)
  case atStart=>exact⟨0,b2 _,rfl,rfl,g,x,R.o⟩
  case round=>
   clear R y z C D g x;obtain⟨k,U,rfl,u,g,x,E⟩:=hrel;have m:=gF u;clear u;obtain⟨y,z,C,D⟩:=E
   by_cases j:k<gH.length
   .
    obtain⟨b,H,rfl,r,L,_⟩:=X k j;have Y:wr.cell? ⟨b,H+k * 2,bz⟩=bB (.int .i64 gH[k].page):=by rw[g.cell (bF w _ r)];exact r
    have aa:wr.cell? ⟨b,H+k * 2+1,bz⟩=bB (ht gH[k].data):=by rw[g.cell (bF w _ L)];exact L
    clear r L;cases I:decide (gH[k].page<0);.
     cases J:decide ((f.length:Int)<=gH[k].page);.
      cases O:((gH[k].data.size:Int)!=h);.
       go_wp2;go_quiet (fail);go_wp2;go_quiet (fail);go_wp2;go_roundw;case rel=>exact⟨k+1,oM,oQ,by rw[<-CY j I J O];exact m.o,by first|exact Below.drewN g _|exact Below.drewN (Below.drewN g _) _,by simpa using x,y,z,C,D⟩
       case measure=>simp[intOf];omega
      go_wp2;go_quiet (fail);go_wp2;go_quiet (fail);go_wp2;go_ret;exact⟨by simp[iW,q,G, <-m.o,CX j I J O],by first|exact Below.drewN g _|exact Below.drewN (Below.drewN g _) _⟩
     go_wp2;go_quiet (fail);go_wp2;go_ret;exact⟨by simp[iW,q,G, <-m.o,CW j J],Below.drewN g _⟩
    go_wp2;go_quiet (fail);go_wp2;go_ret;exact⟨by simp[iW,q,G, <-m.o,CV j I],Below.drewN g _⟩
   obtain rfl:k=gH.length:=oM
   have W:lI f.length h gH=0:=by rw[<-m.o];simp[lI]
   cases M:decide (left< -1);all_goals go_wp2;go_ret;exact⟨by simp at M;simp[iW,q,G,W,M];try omega,g⟩
theorem yG {b:Bool} (h:qy p s=b):(decide (p<1)=bO/\decide (2000<p)=bO/\decide (s<1)=bO/\decide (512<s)=bO/\b=b8)\/(decide (p<1)=b8/\b=bO)\/(decide (p<1)=bO/\decide (2000<p)=b8/\b=bO)\/(decide (p<1)=bO/\decide (2000<p)=bO/\decide (s<1)=b8/\b=bO)\/(decide (p<1)=bO/\decide (2000<p)=bO/\decide (s<1)=bO/\decide (512<s)=b8/\b=bO):=by
 subst h
 by_cases f:p<1<;>by_cases g:2000<p<;>by_cases j:s<1<;>by_cases m:512<s<;>simp[qy,f,g,j,m]<;>omega
theorem Hx (h left:Int) (po co:Option Addr) (pc cc:Nat) (f:List ByteArray) (gH:List PW) (w:bD)
  (af:mW S w po f) (ad:iV S w co gH)
  (ai:f.length<=140737488351232) (ah:gH.length<=140737488351232):
  bW bC 43 #[hF #[.int .i64 h, ha po f.length pc, ha co gH.length cc, .int .i64 left]] w fun e w'=>
  e= gE (.int .i64 (iW ⟨h,f,gH,left⟩))/\bG w.heap.size w w':=by
 have Z: ∀o,bG w.heap.size w (w.alloc o):=fun o=>(bE _ _).alloc (bA _) _;cases r:qy f.length h;. rcases yG r with⟨_,_,_,_,j⟩|⟨y,_⟩|⟨y,C,_⟩|⟨y,C,M,_⟩|⟨y,C,M,V,_⟩;cases j;all_goals go_enter func43,ntmps43;go_wp2;go_ret;exact⟨by simp[iW,r],Z _⟩
 rcases yG r with⟨y,C,M,V,j⟩|⟨_,j⟩|⟨_,_,j⟩|⟨_,_,_,j⟩|⟨_,_,_,_,j⟩;rotate_left;cases j;cases j;cases j;cases j;clear j;go_enter func43,ntmps43;go_wp2;clear y C M V
 go_loopw [4,30] (fun _ i wr=> ∃k:Nat,k<=f.length/\i= .int .i64 k/\mA h (f.drop k)=mA h f/\bG w.heap.size w wr/\w.heap.size<wr.heap.size/\qf wr w.heap.size h left po co f.length pc gH.length cc) (fun _ i _=>f.length - (intOf i).toNat)
 case atStart=>exact⟨0,b2 _,rfl,rfl,Z _,oC,oC,oC,oC,oC⟩
 case round=>
  obtain⟨k,aa,rfl,z,g,u,I⟩:=hrel;have q:=gF z;clear z;have Y:=gF I;obtain⟨D,E,G,H⟩:=I
  by_cases m:k<f.length
  .
   obtain⟨b,L,rfl,x,_⟩:=af k m;have ae:wr.cell? ⟨b,L+k,bz⟩=bB (ht f[k]):=by rw[g.cell (bF w _ x)];exact x
   clear x;cases ab:((f[k].size:Int)!=h);.
    go_wp2;go_roundw;case rel=>exact⟨k+1,oM,oQ,by rw[<-CU m ab];exact q.o,g,by simpa using u,D,E,G,H⟩
    case measure=>simp[intOf];omega
   go_wp2;go_ret;exact⟨by simp[iW,r, <-q.o,CT m ab],g⟩
  obtain rfl:k=f.length:=oM
  have J:mA h f=true:=by rw[<-q.o];simp[mA]
  clear m aa;go_wp2
  go_loopw [6,43] (fun _ i wr=> ∃k:Nat,k<=gH.length/\i= .int .i64 k/\lI f.length h (gH.drop k)=lI f.length h gH/\bG w.heap.size w wr/\w.heap.size<wr.heap.size/\qf wr w.heap.size h left po co f.length pc gH.length cc) (fun _ i _=>gH.length - (intOf i).toNat)
  case atStart=>exact⟨0,b2 _,rfl,rfl,g,u,Y.o⟩
  case round=>
   clear Y D E G H g u;obtain⟨k,aa,rfl,z,g,u,I⟩:=hrel;have q:=gF z;clear z;obtain⟨D,E,G,H⟩:=I
   by_cases m:k<gH.length
   .
    obtain⟨b,L,rfl,x,U,_⟩:=ad k m;have ae:wr.cell? ⟨b,L+k * 2,bz⟩=bB (.int .i64 gH[k].page):=by rw[g.cell (bF w _ x)];exact x
    have ag:wr.cell? ⟨b,L+k * 2+1,bz⟩=bB (ht gH[k].data):=by rw[g.cell (bF w _ U)];exact U
    clear x U;cases O:decide (gH[k].page<0);.
     cases R:decide ((f.length:Int)<=gH[k].page);.
      cases X:((gH[k].data.size:Int)!=h);.
       go_wp2;go_roundw;case rel=>exact⟨k+1,oM,oQ,by rw[<-CY m O R X];exact q.o,g.alloc oM _,oN,by simp[go_sem,D,u],by simp[go_sem,E,u],by simp[go_sem,G,u],by simp[go_sem,H,u]⟩
       case measure=>simp[intOf];omega
      go_wp2;go_ret;exact⟨by simp[iW,r,J, <-q.o,CX m O R X],g.alloc oM _⟩
     go_wp2;go_ret;exact⟨by simp[iW,r,J, <-q.o,CW m R],g.alloc oM _⟩
    go_wp2;go_ret;exact⟨by simp[iW,r,J, <-q.o,CV m O],g.alloc oM _⟩
   obtain rfl:k=gH.length:=oM
   have ac:lI f.length h gH=0:=by rw[<-q.o];simp[lI]
   cases W:decide (left< -1);all_goals go_wp2;go_ret;exact⟨by simp at W;simp[iW,r,J,ac,W];try omega,g⟩
theorem su (d:ik) (v:bK) (w:bD) (g:ja S w v d):
  bW bC 43 #[v] w fun e w'=>e= gE (.int .i64 (iW d))/\bG w.heap.size w w':=by
 obtain⟨po,pc,co,cc,rfl,j,h,f⟩:=g;exact Hx d.size d.left po co pc cc d.gG d.gH w j h f.gG f.gH
theorem rD (d:ik) (v:bK) (w:bD) (g:ja S w v d):
  bW bC 48 #[v] w fun e w'=>e= gE (.int .i64 (iW d))/\bG w.heap.size w w':=by
 obtain⟨po,pc,co,cc,rfl,j,h,f⟩:=g;exact Hw d.size d.left po co pc cc d.gG d.gH w j h f.gG f.gH
def lp (S:Nat->Prop) (w:bD) (o:Option Addr) (l:List Int):Prop:=
 ∀i (h:i<l.length),∃b off,o=bB ⟨b,off,bz⟩/\w.cell? ⟨b,off+i,bz⟩=bB (.int .i64 l[i])/\S b
theorem lp.js {o:Option Addr} {l:List Int} (h:gO S w o (l.map (.int .i64))):lp S w o l:=by
 intro i g;obtain⟨b,m,e,f,j⟩:=h i (by simpa using g);exact⟨b,m,e,by simpa using f,j⟩
theorem lp.row {o:Option Addr} {l:List Int} (h:lp S w o l):gO S w o (l.map (.int .i64)):=by
 intro i g;obtain⟨b,m,e,f,j⟩:=h i (by simpa using g);exact⟨b,m,e,by simpa using f,j⟩
theorem lp.below {o:Option Addr} {l:List Int} (h:lp S w o l) (f:bG w.heap.size w w'):lp S w' o l:= .js (h.row.below f)
theorem lp.same {o:Option Addr} {l:List Int} (h:lp S w o l) (f:Same S w w'):lp S w' o l:= .js (h.row.same f)
theorem Hy (p s:Int) (f:0<=s) (h:s<=140737488351232) (w:bD):bW bC 115 #[.int .i64 p, .int .i64 s] w fun e w'=>
  e= gE (.int .i64 (uE p s))/\w=w':=by
 have g:=Ar p s f;unfold uE at *;go_enter func115,ntmps115;go_wp2;all_goals go_ret
 all_goals exact⟨rfl,rfl⟩
theorem Hz (l:List Int) (o:Option Addr) (c k:Nat) (s:Int) (h:0<=s) (q:s<=140737488351232) (_hl:l.length<=140737488351232) (_hk:k<=140737488351232) (w:bD) (g:lp S w o l):
  bW bC 67 #[ha o l.length c, .int .i64 k, .int .i64 s] w fun e w'=>e= gE (.int .i64 (sr l k s))/\w=w':=by
 unfold sr
 by_cases f:k<l.length
 focus obtain⟨b,r,rfl,m,_⟩:=g k f;rw[dif_pos f];have j:=Ar l[k] s h;unfold uE at *
 rotate_left;focus rw[dif_neg f]
 all_goals
  go_enter func67,ntmps67;go_wp2;all_goals go_ret
  all_goals exact⟨rfl,rfl⟩
theorem C0 {d:ik} (h:mG d po co pc cc):mG (jt d) po co pc cc:=by
 refine⟨h.vE,h.tM,h.gG,h.gH,h.strs,h.rC,?_⟩;have:=h.left;simp only[jt];split<;>omega
theorem yH (d:ik) (v:bK) (w:bD) (q:ja S w v d):
  bW bC 125 #[v] w (qE S w (if d.left=0 then d else jt d) (!(d.left==0))):=by
 obtain⟨po,pc,co,cc,rfl,j,h,f⟩:=q;have u:=f.left;cases g:(d.left==0);.
  rw[if_neg (by simpa using g)];have r:=C0 f
  by_cases m:0<d.left
  all_goals
   go_enter func125,ntmps125;go_wp2;refine bQ (v:= hG #[hF #[.int .i64 (jt d).size, ha po d.gG.length pc, ha co d.gH.length cc, .int .i64 (jt d).left], hA b8]) (by simp[b5,results125,go_sem,jt,m]<;>omega) rfl ?_
   exact⟨_,rfl,⟨po,pc,co,cc,rfl,(j.below (((bE _ _).alloc (bA _) _).alloc oC _)).mono fun _=> .inl,(h.below (((bE _ _).alloc (bA _) _).alloc oC _)).mono fun _=> .inl,r⟩,((bE _ _).alloc (bA _) _).alloc oC _⟩
 rw[if_pos (by simpa using g)];go_enter func125,ntmps125;go_wp2;refine bQ (v:= hG #[hF #[.int .i64 d.size, ha po d.gG.length pc, ha co d.gH.length cc, .int .i64 d.left], hA bO]) (by simp[b5,results125,go_sem]) rfl ?_;exact⟨_,rfl,⟨po,pc,co,cc,rfl,(j.below (((bE _ _).alloc (bA _) _).alloc oC _)).mono fun _=> .inl,(h.below (((bE _ _).alloc (bA _) _).alloc oC _)).mono fun _=> .inl,f⟩,((bE _ _).alloc (bA _) _).alloc oC _⟩
theorem yI (d:ik) (v:bK) (w:bD) (q:ja S w v d):
  bW bC 128 #[v] w (lq S w (if d.left=0 then d else jt d) (if d.left=0 then 18 else 0)):=by
 obtain⟨po,pc,co,cc,rfl,j,h,g⟩:=q;have u:=g.left;cases f:(d.left==0);.
  rw[if_neg (by simpa using f),if_neg (by simpa using f)];have r:=C0 g
  by_cases m:0<d.left
  all_goals
   go_enter func128,ntmps128;go_wp2;refine bQ (v:= hG #[hF #[.int .i64 (jt d).size, ha po d.gG.length pc, ha co d.gH.length cc, .int .i64 (jt d).left], .int .i64 0]) (by simp[b5,results128,go_sem,jt,m]<;>omega) rfl ?_
   exact⟨_,rfl,⟨po,pc,co,cc,rfl,(j.below (((bE _ _).alloc (bA _) _).alloc oC _)).mono fun _=> .inl,(h.below (((bE _ _).alloc (bA _) _).alloc oC _)).mono fun _=> .inl,r⟩,((bE _ _).alloc (bA _) _).alloc oC _⟩
 rw[if_pos (by simpa using f),if_pos (by simpa using f)];go_enter func128,ntmps128;go_wp2;refine bQ (v:= hG #[hF #[.int .i64 d.size, ha po d.gG.length pc, ha co d.gH.length cc, .int .i64 d.left], .int .i64 18]) (by simp[b5,results128,go_sem]) rfl ?_;exact⟨_,rfl,⟨po,pc,co,cc,rfl,(j.below (((bE _ _).alloc (bA _) _).alloc oC _)).mono fun _=> .inl,(h.below (((bE _ _).alloc (bA _) _).alloc oC _)).mono fun _=> .inl,g⟩,((bE _ _).alloc (bA _) _).alloc oC _⟩
theorem C1 (d:ik) (v:bK) (i:Nat) (G:i<d.gG.length) (w:bD) (L:ja S w v d):
  bW bC 129 #[v, .int .i64 i] w fun e w'=>e= gE (ht (nv d i G))/\bG w.heap.size w w':=by
 obtain⟨po,pc,co,cc,rfl,R,M,u⟩:=L;have U:=u.gG;have Y:=u.gH;obtain⟨b,j,rfl,f,_⟩:=R i G;have O:b<w.heap.size:=bF w _ f;clear u;unfold nv;go_enter func129,ntmps129;go_wp2
 go_loopw [5,6] (fun s x wr=> ∃(k:Nat) (g:ByteArray),k<=d.gH.length/\s= ht g/\x= .int .i64 k/\jl i (d.gH.drop k) g=jl i d.gH d.gG[i]/\bG w.heap.size w wr/\w.heap.size<wr.heap.size/\qf wr w.heap.size d.size d.left (bB ⟨b,j,bz⟩) co d.gG.length pc d.gH.length cc) (fun _ x _=>d.gH.length - (intOf x).toNat)
 case atStart=>exact⟨0,d.gG[i],b2 _,rfl,rfl,rfl,(bE _ _).alloc (bA _) _,oC,oC,oC,oC,oC⟩
 case round=>
  obtain⟨k,g,X,rfl,rfl,H,h,I,J⟩:=hrel;have r:=gF H;clear H;obtain⟨z,C,D,E⟩:=J;clear f O U
  by_cases q:k<d.gH.length
  .
   obtain⟨b,j,rfl,f,m,_⟩:=M k q;have V:wr.cell? ⟨b,j+k * 2,bz⟩=bB (.int .i64 d.gH[k].page):=by rw[h.cell (bF w _ f)];exact f
   have W:wr.cell? ⟨b,j+k * 2+1,bz⟩=bB (ht d.gH[k].data):=by rw[h.cell (bF w _ m)];exact m
   clear f m;cases y:(d.gH[k].page==(i:Int));.
    go_wp2;go_roundw;case rel=>exact⟨k+1,g,oM,rfl,oQ,by rw[<-Hs q g y];exact r.o,h,I,z,C,D,E⟩
    case measure=>simp[intOf];omega
   go_wp2;go_roundw;case rel=>exact⟨k+1,d.gH[k].data,oM,rfl,oQ,by rw[<-Hr q g y];exact r.o,h,I,z,C,D,E⟩
   case measure=>simp[intOf];omega
  obtain rfl:k=d.gH.length:=oM
  go_wp2;go_ret;exact⟨by rw[<-r.o];simp[jl],h⟩
theorem Aw (d:ik) (v:bK) (i:Int) (w:bD) (q:ja S w v d):
  bW bC 92 #[v, .int .i64 i] w fun e w'=>e= gE (hG #[ht (lO d i).1, .int .i64 (lO d i).2])/\bG w.heap.size w w':=by
 have h:=q;obtain⟨po,pc,co,cc,rfl,D,y,u⟩:=q;have E:=u.gG;clear u D y;have g: ∀o,bG w.heap.size w (w.alloc o):=fun o=>(bE _ _).alloc (bA _) _;unfold lO;cases r:(iW d !=0);focus
  rw[if_neg (by simpa using r)]
  by_cases m:i<0
  focus rw[if_pos m]
  rotate_left;.
   rw[if_neg m];obtain⟨k,rfl⟩:=bS (Int.not_lt.1 m);rw[cw]
   by_cases j:k<d.gG.length
   . rw[dif_pos j];go_enter c4,cV;go_wp2_with fail;refine(rD d _ _ (h.below (g _))).mono ?_;rintro e w' ⟨rfl,f⟩;obtain⟨z,C⟩:=uD f;go_wp2_with fail;refine(C1 d _ k j _ ((h.below (g _)).below f)).mono ?_;rintro e G ⟨rfl,x⟩;go_wp2;go_ret2;exact⟨rfl,((g _).trans (f.mono oC)).trans (x.mono (by have:=f.size;simp at this;omega))⟩
   rw[dif_neg j];go_enter c4,cV;go_wp2_with fail;refine(rD d _ _ (h.below (g _))).mono ?_;rintro e w' ⟨rfl,f⟩;obtain⟨z,C⟩:=uD f;go_wp2;go_ret2;exact⟨rfl,(g _).trans (f.mono oC)⟩
 rotate_left;focus rw[if_pos (by simpa using r)]
 all_goals go_enter c4,cV;go_wp2_with fail;refine(rD d _ _ (h.below (g _))).mono ?_;rintro e w' ⟨rfl,f⟩;go_wp2;go_ret2;exact⟨rfl,(g _).trans (f.mono oC)⟩
theorem tz:(Tryz.prog.info? 80).map (fun i=>(i.zero,i.size,i.bytes))=bB (bB (hF #[.int .i64 0, .string .empty]),2,24):=oP
theorem HA (w:bD) (o:Option Addr) (l:List PW) (c:Nat) (u:jk o l.length c) (h:iV S w o l) (G:l.length<=1000000):
  bW bC 126 #[ha o l.length c] w fun e w'=> ∃v,e= gE v/\w'.ownsRow w.heap.size 80 2 v l.length (mi l)/\bG w.heap.size w w':=by
 obtain⟨C,j,x,y,z⟩:=info_parts tz;have E:=fun(w:bD) (a:Option Addr) (n c:Nat)=>Lib.run_eql_slice_nil (P:=bC) w 23 80 a n c 0 0 cF;rcases u with⟨rfl,r,rfl⟩|⟨a,rfl,H,D⟩;. have q:l=[]:=bR r;subst q;go_enter func126,ntmps126;go_wp2;go_ret;exact⟨_,rfl,c8 _ _ _ _,bE _ _⟩
 go_enter func126,ntmps126;go_wp2_with (at_builtin;refine o8 rfl _ _ 23 rfl w.heap.size 80 C _ 2 24 cF j x y z rfl oF _ 0 [] rfl (c5 w #[] 0 (bA _) (by simp[cr]) rfl) _ l.length c (mi l) rfl (by intro e;cases e) (wM l) (h.row.below ((bE _ _).alloc (bA _) _)) (yE l) (by unfold cr;omega) oM oC ?_;intro I J f g);go_ret;simp only[Nat.zero_add,b4] at f;exact⟨_,rfl,f,((bE _ _).alloc (bA _) _).grown g oC (by intro k m;cases m;exact bA _)⟩
theorem HE:mG jX bz bz 0 0:=⟨.inl ⟨rfl,rfl,rfl⟩, .inl ⟨rfl,rfl,rfl⟩,by simp[jX],by simp[jX],by simp[jX],by simp[jX],by simp[jX]⟩
theorem rE (w:bD):ja S w (hF #[.int .i64 0, ha bz 0 0, ha bz 0 0, .int .i64 0]) jX:=
 ⟨bz,0,bz,0,rfl,by intro i f;simp[jX] at f,by intro i f;simp[jX] at f,HE⟩
theorem C2 {d:ik} (h:mG d po co pc cc) {g:Option Addr} {C3:Nat} {data:ByteArray} (j:data.size<=140737488351232) (r:d.gH.length<=1000000) (m:jk g (d.gH.length+1) C3):
  mG { d with gH:=d.gH++[⟨i,data⟩] } po g pc C3:=by
 refine⟨h.vE,by simpa using m,h.gG,oN,h.strs,?_,h.left⟩;intro q f;simp at f;rcases f with f|rfl;exact h.rC q f;exact j
theorem HF (d:ik) (v:bK) (i:Int) (data:ByteArray) (w:bD) (y:nR S w) (R:ja S w v d) (al:data.size<=140737488351232) (W:d.gH.length<=1000000) (aP:(iW d !=0)=bO) (aG:decide (i<0)=bO) (aH:decide ((d.gG.length:Int)<=i)=bO) (aI:((data.size:Int)!=d.size)=bO) (O:(d.left==0)=bO):
  bW bC 83 #[v, .int .i64 i, ht data] w (lq S w { jt d with gH:=d.gH++[⟨i,data⟩] } 0):=by
 have U:=R;obtain⟨po,pc,co,cc,rfl,ao,aj,H⟩:=R;have aS:=H.gG;have aT:=gF H;clear H ao aj;obtain⟨aA,am,ax,ay,az⟩:=info_parts tz;have E: ∀o X,bG w.heap.size w ((w.alloc o).alloc X):=fun o X=>((bE _ _).alloc (bA _) _).alloc oC _;have ar: ∀(r:bD) (v:bK),ja S r v d->bW bC 125 #[v] r (qE S r (jt d) b8):=fun r v f=>by have:=yH d v r f;rw[if_neg (by simpa using O),O] at this;exact this
 go_enter cA,cx;go_wp2_with fail;refine(su d _ _ (U.below (E _ _))).mono ?_;rintro e w1 ⟨rfl,z⟩;have I:=((Bx.new w _ _).alloc _).gD z;have C:=(Bx.new (w.alloc _) _ _).gD z;rw[bP] at C;obtain⟨h,j⟩:=I.cf;obtain⟨g,m⟩:=C.cf;have ae:bG w.heap.size w w1:=(E _ _).trans (z.mono oN);have aK:=I.lt;have aM:=C.lt;go_wp2_with fail;refine(ar _ _ ((U.below (E _ _)).below z)).mono ?_;rintro e w2 ⟨v2,rfl,V,D⟩;have J:=I.gD D;have L:=C.gD D;have af:bG w.heap.size w w2:=ae.trans (D.mono oM);clear h j g m;have aJ:=V;obtain⟨ab,aa,aF,aE,rfl,ap,ak,Z⟩:=V;obtain⟨h,j⟩:=J.cf;obtain⟨g,m⟩:=L.cf;have aL:=J.lt;have aN:=L.lt;have G: ¬Gr S w1 w2 w.heap.size:=by rintro (f|f);exact absurd (y _ f) oM;omega
 have aB: ¬Gr S w1 w2 (w.heap.size+1):=by rintro (f|f);exact absurd (y _ f) oM;omega
 go_wp2_with fail;refine(HA _ _ d.gH _ Z.tM (ak.same ((Same.refl _ _).kz G)) W).mono ?_;rintro e w3 ⟨v3,rfl,q,u⟩;have ac:=J.kz.gD u;have ad:=(L.nE (b':=w.heap.size) oC).gD u;have ag:=(nX (b:=w.heap.size) af (bA _)).trans (u.mono oN);have aq:=(ap.same ((Same.refl _ _).kz G)).below u;clear h j g m;obtain⟨h,j⟩:=ac.cf;obtain⟨g,m⟩:=ad.cf;have aQ:w2.heap.size<=w3.heap.size:=by have:=u.size;simpa using this
 simp only[b9] at q;go_wp2_with (at_builtin;refine o8 rfl _ _ 23 rfl w2.heap.size 80 aA _ 2 24 cF am ax ay az rfl oF _ d.gH.length (mi d.gH) rfl (q.alloc _) _ 1 1 [.int .i64 i, .string data] rfl (by intro e;cases e) rfl (gO.bx (Bx.new w3 _ _)) (by simp[Value.oneCell']) (by unfold cr;omega) oM oN ?_;intro aU w4 an x;clear h j g m;obtain⟨Y,M,rfl,aw,au,aO⟩:=nC an;have aC:=(ac.alloc _).grown x (by intro e;have:=(q.lt _ e.symm).1;omega);have aD:=(ad.alloc _).grown x (by intro e;have:=(q.lt _ e.symm).1;omega);obtain⟨h,j⟩:=aC.cf;obtain⟨g,m⟩:=aD.cf);have aR:w3.heap.size+1<=w4.heap.size:=by have:=x.size;simpa using this
 have ah:bG w.heap.size w w4:=((ag.alloc oM _).grown x oN (by intro k e;have:=(q.lt _ e).1;omega));refine bQ (v:= hG #[hF #[.int .i64 (jt d).size, ha ab (jt d).gG.length aa, ha Y (d.gH.length+1) M, .int .i64 (jt d).left], .int .i64 0]) (by simp[b5,ct,go_sem,g]) rfl ?_;refine⟨_,rfl,⟨ab,aa,Y,M,oC,?_,?_,C2 Z al W aw⟩,?_⟩;have ai:nR (Gr S w1 w2) w3:=fun b f=>by rcases f with f|f;exact iU (y _ f) oM;omega
 have av:Same (Gr S w1 w2) (w3.alloc _) w4:=Same.qD x (fun b f=>by have:=ai b f;simp;omega) (fun b e f=>by have:=(q.lt _ e).1;rcases f with f|f;exact absurd (y _ f) oM;omega);refine mW.mono (S:=Gr S w1 w2) ?_ (fun b f=>by rcases f with f|f;exact .inl f;exact Gr.new oM (by simp only[b9];omega));exact(aq.below ((bE _ _).alloc (bA _) _)).same ((av.pQ G).kz aB);refine iV.mono (S:=fun b=>w2.heap.size<=b/\b<w4.heap.size) ?_ (fun b f=>Gr.new oM (by simp only[b9];omega));exact(iV.js (l:=d.gH++[⟨i,data⟩]) (by rw[Aq];exact au)).same (((Same.refl _ _).pQ (b:=w.heap.size) oM).kz (b:=w.heap.size+1) oM);exact nX (b:=w.heap.size+1) (iT (b:=w.heap.size) ah (bA _)) oM
theorem HI (d:ik) (v:bK) (i:Int) (data:ByteArray) (w:bD) (I:nR S w) (E:ja S w v d) (_hd:data.size<=140737488351232) (_hn:d.gH.length<=1000000) (ao:(iW d !=0)=bO) (ae:decide (i<0)=bO) (af:decide ((d.gG.length:Int)<=i)=bO) (ag:((data.size:Int)!=d.size)=bO) (D:(d.left==0)=b8):
  bW bC 83 #[v, .int .i64 i, ht data] w (lq S w d 18):=by
 have G:=E;obtain⟨po,pc,co,cc,rfl,Y,X,u⟩:=E;have av:=u.gG;have ax:=gF u;clear u Y X;obtain⟨au,ai,ap,aq,ar⟩:=info_parts tz;have r: ∀o J,bG w.heap.size w ((w.alloc o).alloc J):=fun o J=>((bE _ _).alloc (bA _) _).alloc oC _;have Z: ∀(g:bD) (v:bK),ja S g v d->bW bC 125 #[v] g (qE S g d bO):=fun g v f=>by have:=yH d v g f;rw[if_pos (by simpa using D),D] at this;exact this
 go_enter cA,cx;go_wp2_with fail;refine(su d _ _ (G.below (r _ _))).mono ?_;rintro e w1 ⟨rfl,h⟩;have x:=((Bx.new w _ _).alloc _).gD h;have j:=(Bx.new (w.alloc _) _ _).gD h;rw[bP] at j;obtain⟨y,z⟩:=x.cf;obtain⟨m,C⟩:=j.cf;have U:bG w.heap.size w w1:=(r _ _).trans (h.mono oN);have aj:=x.lt;have al:=j.lt;go_wp2_with fail;refine(Z _ _ ((G.below (r _ _)).below h)).mono ?_;rintro e w2 ⟨v2,rfl,H,q⟩;have L:=x.gD q;have M:=j.gD q;have V:bG w.heap.size w w2:=U.trans (q.mono oM);clear y z m C;have W:=H;obtain⟨ad,ac,R,O,rfl,an,ah,aw⟩:=H;obtain⟨y,z⟩:=L.cf;obtain⟨m,C⟩:=M.cf;have ak:=L.lt;have am:=M.lt;have aa: ¬Gr S w1 w2 w.heap.size:=by rintro (f|f);exact absurd (I _ f) oM;omega
 have ab: ¬Gr S w1 w2 (w.heap.size+1):=by rintro (f|f);exact absurd (I _ f) oM;omega
 go_wp2;refine bQ (v:= hG #[hF #[.int .i64 d.size, ha ad d.gG.length ac, ha R d.gH.length O, .int .i64 d.left], .int .i64 18]) (by simp[b5,ct,go_sem,m]) rfl ?_;refine⟨_,rfl,(W.same ?_).mono ?_,?_⟩;exact((Same.refl _ _).kz aa).kz ab;rintro b (f|f);exact .inl f;exact .inr oN;exact nX (b:=w.heap.size+1) (nX (b:=w.heap.size) V (bA _)) oM
theorem HJ (d:ik) (v:bK) (i:Int) (data:ByteArray) (w:bD) (J:nR S w) (I:ja S w v d) (L:data.size<=140737488351232) (R:d.gH.length<=1000000):
  bW bC 83 #[v, .int .i64 i, ht data] w (lq S w (mR d i data).1 (mR d i data).2):=by
 have u:=I;obtain⟨po,pc,co,cc,rfl,W,V,D⟩:=I;have ac:=D.gG;have ad:=gF D;clear D W V;obtain⟨ab,X,Y,Z,aa⟩:=info_parts tz;have j: ∀o U,bG w.heap.size w ((w.alloc o).alloc U):=fun o U=>((bE _ _).alloc (bA _) _).alloc oC _;unfold mR;cases C:(iW d !=0);.
  rw[if_neg (by simpa using C)];cases q:decide (i<0);focus
   cases x:decide ((d.gG.length:Int)<=i);. rw[if_neg (by simp at q x;omega)];cases y:((data.size:Int)!=d.size);rw[if_neg (by simpa using y)];cases z:(d.left==0);rw[if_neg (by simpa using z)];exact HF d _ i data w J u L R C q x y z;rw[if_pos (by simpa using z)];exact HI d _ i data w J u L R C q x y z;rw[if_pos (by simpa using y)];go_enter cA,cx;go_wp2_with fail;refine(su d _ _ (u.below (j _ _))).mono ?_;rintro e w1 ⟨rfl,f⟩;have h:=((Bx.new w _ _).alloc _).gD f;have g:=(Bx.new (w.alloc _) _ _).gD f;rw[bP] at g;obtain⟨E,G⟩:=h.cf;obtain⟨m,H⟩:=g.cf;have r:bG w.heap.size w w1:=(j _ _).trans (f.mono oN);have M:=h.lt;have O:=g.lt;go_wp2;refine bQ (v:= hG #[hF #[.int .i64 0, ha bz 0 0, ha bz 0 0, .int .i64 0], .int .i64 10]) (by simp[b5,ct,go_sem,m]) rfl ?_;exact⟨_,rfl,rE _,(by repeat (first|exact r| (refine cD ?_ oC _)| (refine cL ?_ oN _)| (refine Below.drewN ?_ _)| (refine c7 ?_)))⟩
   focus rw[if_pos (by simp at q x;omega)]
  rotate_left;focus rw[if_pos (by simp at q;omega)]
  all_goals go_enter cA,cx;go_wp2_with fail;refine(su d _ _ (u.below (j _ _))).mono ?_;rintro e w1 ⟨rfl,f⟩;have h:=((Bx.new w _ _).alloc _).gD f;have g:=(Bx.new (w.alloc _) _ _).gD f;rw[bP] at g;obtain⟨E,G⟩:=h.cf;obtain⟨m,H⟩:=g.cf;have r:bG w.heap.size w w1:=(j _ _).trans (f.mono oN);have M:=h.lt;have O:=g.lt;go_wp2;refine bQ (v:= hG #[hF #[.int .i64 0, ha bz 0 0, ha bz 0 0, .int .i64 0], .int .i64 2]) (by simp[b5,ct,go_sem,m]) rfl ?_;exact⟨_,rfl,rE _,(by repeat (first|exact r| (refine cD ?_ oC _)| (refine cL ?_ oN _)| (refine Below.drewN ?_ _)| (refine c7 ?_)))⟩
 rw[if_pos (by simpa using C)];go_enter cA,cx;go_wp2_with fail;refine(su d _ _ (u.below (j _ _))).mono ?_;rintro e w1 ⟨rfl,f⟩;have h:=((Bx.new w _ _).alloc _).gD f;have g:=(Bx.new (w.alloc _) _ _).gD f;rw[bP] at g;obtain⟨E,G⟩:=h.cf;obtain⟨m,H⟩:=g.cf;have r:bG w.heap.size w w1:=(j _ _).trans (f.mono oN);have M:=h.lt;have O:=g.lt;go_wp2;refine bQ (v:= hG #[hF #[.int .i64 0, ha bz 0 0, ha bz 0 0, .int .i64 0], .int .i64 1]) (by simp[b5,ct,go_sem,m]) rfl ?_;exact⟨_,rfl,rE _,(by repeat (first|exact r| (refine cD ?_ oC _)| (refine cL ?_ oN _)| (refine Below.drewN ?_ _)| (refine c7 ?_)))⟩
end Go.Proofs.YtlefmmhlpgmbjaaGreat
namespace Go.Proofs
open Go.Shelf
def lays106_ren:Go.Shelf.Ren:=⟨fun|106=>71|213=>118|265=>159|n=>n,fun|9=>9|3=>3|n=>n,fun|n=>n⟩
theorem lays106:Go.Proofs.Lays.n106 bC lays106_ren:={
 mixed:=by kernel_rfl
 f106:=Tryz.func71.trans (congrArg bB (by kernel_rfl))
 f213:=Tryz.func118.trans (congrArg bB (by kernel_rfl))
 f265:=Tryz.func159.trans (congrArg bB (by kernel_rfl))
 t3:=bU
 a3:=c0
 z3:=cU
 v3:=cM
 t9:=cj
 a9:=isAgg9
 z9:=sizeOf9
 v9:=cy }
open Go.RowKit in
theorem strings_Compare (a b:ByteArray) (w:bD):
  bW bC 71 #[ht a, ht b] w fun e w'=>e= gE (.int .i64 (Lib.compareBytes a.data.toList b.data.toList))/\w'=w:=Any.strings_Compare lays106 a b w
def lays105_ren:Go.Shelf.Ren:=⟨fun|105=>62|212=>104|99=>105|165=>106|166=>107|170=>108|169=>109|263=>140|264=>141|206=>142|240=>143|241=>144|276=>178|277=>179|n=>n,fun|9=>9|3=>3|4=>4|20=>20|0=>0|46=>158|109=>159|5=>5|72=>164|76=>168|51=>203|146=>204|53=>206|148=>207|70=>162|37=>139|75=>167|127=>209|164=>237|80=>171|n=>n,fun|n=>n⟩
theorem lays105:Go.Proofs.Lays.n105 bC lays105_ren:={
 mixed:=by kernel_rfl
 f99:=Tryz.func105.trans (congrArg bB (by kernel_rfl))
 f105:=Tryz.func62.trans (congrArg bB (by kernel_rfl))
 f165:=Tryz.func106.trans (congrArg bB (by kernel_rfl))
 f166:=Tryz.func107.trans (congrArg bB (by kernel_rfl))
 f169:=Tryz.func109.trans (congrArg bB (by kernel_rfl))
 f170:=Tryz.func108.trans (congrArg bB (by kernel_rfl))
 f206:=Tryz.func142.trans (congrArg bB (by kernel_rfl))
 f212:=Tryz.func104.trans (congrArg bB (by kernel_rfl))
 f240:=Tryz.func143.trans (congrArg bB (by kernel_rfl))
 f241:=Tryz.func144.trans (congrArg bB (by kernel_rfl))
 f263:=Tryz.func140.trans (congrArg bB (by kernel_rfl))
 f264:=Tryz.func141.trans (congrArg bB (by kernel_rfl))
 f276:=Tryz.func178.trans (congrArg bB (by kernel_rfl))
 f277:=Tryz.func179.trans (congrArg bB (by kernel_rfl))
 t0:=underlying0
 a0:=isAgg0
 z0:=sizeOf0
 v0:=zeroValue0
 t3:=bU
 a3:=c0
 z3:=cU
 v3:=cM
 t4:=underlying4
 a4:=isAgg4
 z4:=sizeOf4
 v4:=zeroValue4
 t5:=underlying5
 a5:=isAgg5
 z5:=sizeOf5
 v5:=zeroValue5
 t9:=cj
 a9:=isAgg9
 z9:=sizeOf9
 v9:=cy
 t20:=underlying20
 a20:=isAgg20
 z20:=sizeOf20
 v20:=zeroValue20
 t37:=underlying139
 a37:=isAgg139
 z37:=sizeOf139
 v37:=zeroValue139
 t46:=underlying158
 a46:=isAgg158
 z46:=sizeOf158
 v46:=zeroValue158
 t51:=underlying203
 a51:=isAgg203
 z51:=sizeOf203
 v51:=zeroValue203
 t53:=underlying206
 a53:=isAgg206
 z53:=sizeOf206
 v53:=zeroValue206
 t70:=underlying162
 a70:=isAgg162
 z70:=sizeOf162
 v70:=zeroValue162
 t72:=underlying164
 a72:=isAgg164
 z72:=sizeOf164
 v72:=zeroValue164
 t75:=underlying167
 a75:=isAgg167
 z75:=sizeOf167
 v75:=zeroValue167
 t76:=underlying168
 a76:=isAgg168
 z76:=sizeOf168
 v76:=zeroValue168
 t109:=underlying159
 a109:=isAgg159
 z109:=sizeOf159
 v109:=zeroValue159
 t127:=underlying209
 a127:=isAgg209
 z127:=sizeOf209
 v127:=zeroValue209
 t146:=underlying204
 a146:=isAgg204
 z146:=sizeOf204
 v146:=zeroValue204
 t148:=underlying207
 a148:=isAgg207
 z148:=sizeOf207
 v148:=zeroValue207
 t164:=underlying237
 a164:=isAgg237
 z164:=sizeOf237
 v164:=zeroValue237 }
theorem Builder_Extra_105:Builder.Extra bC lays105_ren:={
 sizeBuilder:=by kernel_rfl
 liesBuilder:=by kernel_rfl
 t5:=underlying5
 a5:=isAgg5
 z5:=sizeOf5
 v5:=zeroValue5
 infoByte:=by kernel_rfl
 cellsByte:=by kernel_rfl
 sizeByte:=by kernel_rfl
 neB5:=by decide }
open Go.RowKit Go.Lib in
theorem strings_Repeat (s:ByteArray) (c:Nat) (w:bD) (f:c<=9223372036854775807) (g:s.size * c<=140737488355328):
  bW bC 62 #[ht s, .int .i64 c] w fun e w'=>e= gE (ht ⟨(Lib.repeatL s.data.toList c).toArray⟩)/\bG w.heap.size w w':=Any.strings_Repeat lays105 Builder_Extra_105 s c w f g
def lays111_ren:Go.Shelf.Ren:=⟨fun|111=>99|n=>n,fun|28=>31|3=>3|4=>4|0=>0|n=>n,fun|n=>n⟩
theorem lays111:Go.Proofs.Lays.n111 bC lays111_ren:={
 mixed:=by kernel_rfl
 f111:=Tryz.func99.trans (congrArg bB (by kernel_rfl))
 t0:=underlying0
 a0:=isAgg0
 z0:=sizeOf0
 v0:=zeroValue0
 t3:=bU
 a3:=c0
 z3:=cU
 v3:=cM
 t4:=underlying4
 a4:=isAgg4
 z4:=sizeOf4
 v4:=zeroValue4
 t28:=underlying31
 a28:=isAgg31
 z28:=sizeOf31
 v28:=zeroValue31 }
theorem slices_Equal_int (f h n c g r m d:Nat) (xs ys:List Int) (w:bD) (C:n<=xs.length) (D:m<=ys.length) (u:n<=9223372036854775807) (x:m<=9223372036854775807) (y: ∀j,j<xs.length->w.cell? ⟨f,h+j,bz⟩=bB (.int .i64 (xs.getD j 0))) (z: ∀j,j<ys.length->w.cell? ⟨g,r+j,bz⟩=bB (.int .i64 (ys.getD j 0))):
  bW bC 99 #[ha (bB ⟨f,h,bz⟩) n c, ha (bB ⟨g,r,bz⟩) m d] w fun e w'=>e= gE (hA (xs.take n==ys.take m))/\ ∃q,w'=w.drewN q:=Any.slices_Equal_int lays111 f h n c g r m d xs ys w C D u x y z
theorem slices_Equal_int_empty (f g:Option Addr) (c m d:Nat) (w:bD) (h:m<=9223372036854775807):
  bW bC 99 #[ha f 0 c, ha g m d] w fun e w'=>e= gE (hA (decide (m=0)))/\w'=w:=Any.slices_Equal_int_empty lays111 f g c m d w h
theorem slices_Equal_int_lens (f g:Option Addr) (n c m d:Nat) (w:bD) (h:n≠m):
  bW bC 99 #[ha f n c, ha g m d] w fun e w'=>e= gE (hA bO)/\w'=w:=Any.slices_Equal_int_lens lays111 f g n c m d w h
end Go.Proofs
namespace Go.Proofs.YtlefmmhlpgmbjaaGreat
open Go.RowKit
variable {S:Nat->Prop}
theorem xu:(Tryz.prog.info? 9).map (fun i=>(i.zero,i.size,i.bytes))=bB (bB (.string .empty),1,16):=oP
theorem Ax:(Tryz.prog.info? 5).map (fun i=>(i.zero,i.size,i.bytes))=bB (bB (.int .u8 0),1,1):=oP
def rF (n:Nat):ByteArray:=⟨(bM n 0).toArray⟩
theorem HL {p:Nat} {s:Int} {z:ByteArray} {o:Option Addr} {c:Nat} (g:jk o p c) (h:p<=2000) (j:z.size<=512):mG ⟨s,bM p z,[],-1⟩ o bz c 0:=by
 refine⟨by simpa using g, .inl ⟨rfl,rfl,rfl⟩,oN,oC,?_,oC,oC⟩;intro m f;simp at f;rw[f.2];omega
theorem HM (n:Nat):Lib.repeatL [0] n=bM n 0:=by
 induction n with
 | zero=>rfl
 | succ n f=>simp[Lib.repeatL,f,List.replicate_succ]
theorem yJ (n:Nat) (g:n<=1000000) (w:bD):
  bW bC 62 #[ht { data:=#[0] }, .int .i64 n] w fun e w'=>e= gE (ht (rF n))/\bG w.heap.size w w':=by
 have f:=strings_Repeat { data:=#[0] } n w oM (by show 1 * n<=_;omega);rw[show({ data:=#[0] }:ByteArray).data.toList=[0] from rfl,HM] at f;exact f
theorem HQ (p s:Nat) (w:bD) (H:qy p s=b8):
  bW bC 28 #[.int .i64 p, .int .i64 s] w (lq S w ⟨s,bM p (rF s),[],-1⟩ 0):=by
 obtain⟨ao,ah,al,am,an⟩:=info_parts xu;have D:p<=2000/\s<=512:=by simp[qy] at H;omega
 rcases yG H with⟨R,U,V,W,f⟩|⟨_,f⟩|⟨_,_,f⟩|⟨_,_,_,f⟩|⟨_,_,_,_,f⟩;rotate_left;cases f;cases f;cases f;cases f;clear f;obtain⟨m,q⟩:=nM (rF s);have aj: ∀g:bD,bW bC 62 #[ht { data:=#[0] }, .int .i64 s] g fun e w'=>e= gE (ht m)/\bG g.heap.size g w':=fun g=>q▸yJ s oM g;have aa:=gF q;clear q;go_enter func28,ntmps28;go_wp2;clear R U V W
 go_loopw [25] (fun i wr=> ∃(k:Nat) (v:bK),k<=p/\i= .int .i64 k/\wr.ownsRow (w.heap.size+2) 9 1 v k (bM k (ht m))/\Bx wr w.heap.size #[.int .i64 0, ha bz 0 0, ha bz 0 0, .int .i64 0] 25/\Bx wr (w.heap.size+1) #[.int .i64 s,v, ha bz 0 0, .int .i64 (-1)] 25/\bG w.heap.size w wr) (fun i _=>p - (intOf i).toNat)
 case atStart=>exact⟨0,_,b2 _,rfl,c8 _ _ _ _,(Bx.new w _ _).alloc _,by simpa using Bx.new (w.alloc _) _ _,((bE _ _).alloc (bA _) _).alloc oC _⟩
 case round=>
  obtain⟨k,v,ax,rfl,E,L,x,r⟩:=hrel;have az:=x.lt;obtain⟨C,ad⟩:=L.cf;obtain⟨X,ab⟩:=x.cf
  by_cases aA:k<p
  .
   go_wp2
   go_region_law (first
    | (refine Ap rfl (.tmp 28) (.tmp 31) 22 rfl (w.heap.size+2) 9 ao _ 1 16 cv ah al am an rfl oF v k _ rfl (j.alloc _) _ 1 1 [.string m] rfl (by intro e;cases e) rfl (gO.bx (Bx.new ap _ _)) (by simp[Value.oneCell']) (by unfold cr;omega) oM oN ?_;intro v3 w3 G u;clear Z ae Y ac;obtain⟨aG,aq,rfl,aE,aD,aC⟩:=nC G;have O:=(M.alloc _).grown u (by intro e;have:=(j.lt _ e.symm).1;omega);have J:=(y.alloc _).grown u (by intro e;have:=(j.lt _ e.symm).1;omega);obtain⟨au,aw⟩:=O.cf;obtain⟨ar,av⟩:=J.cf)
    | (go_simp;go_at_call 62;refine(aj _).mono ?_;rintro e ap ⟨rfl,h⟩;have M:=L.drew.gD h;have y:=x.drew.gD h;have j:=nD E.drew h;have af:=r.drew.trans (h.mono r.size);have ay:=y.lt;clear C ad X ab;obtain⟨Z,ae⟩:=M.cf;obtain⟨Y,ac⟩:=y.cf))
   all_goals
    have ag:bG w.heap.size w w3:=(af.alloc oM _).grown u oN (by intro aF e;have:=(j.lt _ e).1;omega);go_wp2;go_roundw;case rel=>
     refine⟨k+1,_,oM,oQ,by rw[List.replicate_succ'];exact CK G oM _,O.jc oC _,by simpa using J.set 1 _,iT ag oM⟩
    case measure=>simp[intOf];omega
  obtain rfl:k=p:=oM
  obtain⟨I,z,rfl,ak,ai,aB⟩:=nC E;go_wp2;refine bQ (v:= hG #[hF #[.int .i64 s, ha I k z, ha bz 0 0, .int .i64 (-1)], .int .i64 0]) (by simp[b5,results28,go_sem,C]) rfl ?_;refine⟨_,rfl,⟨I,z,bz,0,oC,?_,by intro i f;simp at f,HL (by simpa using ak) D.1 (by simp[rF,c6];exact D.2)⟩,nX (b:=w.heap.size) r (bA _)⟩;refine mW.mono (S:=fun b=>w.heap.size+2<=b/\b<wr.heap.size) ?_ (fun b f=>Gr.new oM (by simp only[b9];omega));exact(mW.js (by rw[show rF s=m from aa.o];simpa using ai)).same ((Same.refl _ _).kz (b:=w.heap.size) oM)
theorem HR (p s:Int) (w:bD):
  bW bC 28 #[.int .i64 p, .int .i64 s] w (lq S w (mN p s).1 (mN p s).2):=by
 unfold mN;cases g:qy p s;. rw[if_neg oC];rcases yG g with⟨_,_,_,_,m⟩|⟨f,_⟩|⟨f,h,_⟩|⟨f,h,j,_⟩|⟨f,h,j,q,_⟩;cases m;all_goals go_enter func28,ntmps28;go_wp2;refine bQ (v:= hG #[hF #[.int .i64 0, ha bz 0 0, ha bz 0 0, .int .i64 0], .int .i64 2]) (by simp[b5,results28,go_sem]) rfl ?_;exact⟨_,rfl,rE _,by repeat (first|exact bE _ _| (refine cD ?_ oC _)| (refine cL ?_ oC _))⟩
 rw[if_pos rfl];have r:1<=p/\1<=s:=by simp[qy] at g;omega
 obtain⟨p,rfl⟩:=bS (a:=p) oM;obtain⟨s,rfl⟩:=bS (a:=s) oM;exact HQ p s w g
open Go.RowKit Go.Shelf
variable {T:Nat->Prop}{A B:bD}
def iL (T:Nat->Prop) (W W':bD):Prop:= ∀k o,T k->W.heap[k]?=bB o->W'.heap[k]?=bB o
theorem iL.refl (T:Nat->Prop) (W:bD):iL T W W:=fun _ _ _ f=>f
theorem iL.trans {C:bD} (h:iL T A B) (k:iL T B C):iL T A C:=fun i o f g=>k i o f (h i o f g)
theorem iL.put (f:bD) {l:Nat} (o:Obj) (h: ¬T l):iL T f (f.putObj l o):=fun k m g j=>(cb (by intro e;subst e;exact h g)).trans j
theorem iL.set (f:bD) {a:Addr} (v:bK) (h: ¬T a.block):iL T f (f.setCell a v):=fun k m g j=>(ca f a v k (by intro e;subst e;exact h g)).trans j
variable {F:cS} {n:Nat} {P:cG}
def C4 {α:Type} (F:cS) (n:Nat) (P:cG) (gf:Nat) (lb:Array bK) (nZ:α->Array bK) (T:Nat->Prop) (S:List α->Prop) (N:Nat) (w:bD):Prop:=
 ∀(l:Nat) (J:List α->bD->Prop),(∀s W W',J s W->W.grownBy W' bz->J s W')->
  (∀pre x W1,J pre W1->pre.length<N->YieldAt F (n - 1) P l (nZ x) W1 fun e W'=>e= gE (hA b8)/\J (pre++[x]) W'/\iL T W1 W')->
  J [] w->CallsIn F n P gf (#[.func (.yield l) #[] #[]]++lb) w fun e W'=>(∃v,e= gE v)/\ ∃xs,S xs/\J xs W'
def HT {α:Type} (B:Nat) (T:Nat->Prop) (I:List α->bD->Prop) (xs:List α) (W:bD):Exit->Act->bD->Prop
 | .normal,_,W'=>W'.heap[B]?=W.heap[B]?/\W'.heap[B+1]?=W.heap[B+1]?/\iL T W W'/\I xs W'
 | _,_,_=>False
theorem HV {α:Type} {g:cC} {ps:Array Tmp} {assign body:Code} {Q:Exit->Act->bD->Prop} {a:Act} {w:bD}
  (ap:F.round=bz) (u:1<=n) {gf:Nat} {lb:Array bK} (aj:a.eval g= .func (.func gf) #[] lb) (aa:F.fn gf) (X: ∀args w,(callFunc gf args).run P w= .ok (.enter gf args) w)
  {nZ:α->Array bK} {S:List α->Prop} {N:Nat}
  (aq: ∀E:bD,E.heap.size=w.heap.size+2->bG w.heap.size w E->C4 F (n - 1) P gf lb nZ T S N E)
  (M: ¬T (w.heap.size+1)) (ao: ∀x,(nZ x).size=ps.size)
  (j:List α->bD->Prop) (q: ∀s f J V,j s f->f.grownBy J V->(∀r,V=bB r->w.heap.size<=r)->j s J) (Y:j [] w) (L:α->Act)
  (ad: ∀(l:Nat) (x:α) (f:bD) (K:Act->bD->Prop),K (L x) f->
   assign.wpIn (F.inRound l) (n - 1 - 1) P (Exit.then K fun _ _ _=>False) { tmps:=(ps.zip (nZ x)).foldl (fun t (p,v)=>t.setIfInBounds p v) a.tmps,defers:=[] } f)
  (ae: ∀(l:Nat) (m:List α) (x:α) (f:bD),j m f->m.length<N->body.wpIn (F.inRound l) (n - 1 - 1) P (HT w.heap.size T j (m++[x]) f) (L x) f)
  (ah: ∀(xs:List α) (f:bD),S xs->j xs f->f.heap[w.heap.size]?=bB (.deferred (bB []))->Q .normal { a with defers:={ target:= .collected w.heap.size,args:=#[] }::a.defers } f):
  (Code.rangeFunc g ps assign body).wpIn F n P Q a w:=by
 refine wpIn_rangeFunc fun fn ai=>?_;rw[ap]
 let h:LoopState->Loop:=fun au=>{ state:=au,pending:=bz,fn,tmps:=a.tmps,params:=ps,assign,body,defers:=w.heap.size }
 have ac:bG w.heap.size w ((w.alloc (.deferred (bB []))).alloc (.loop (h .ready))):=((bE _ w).alloc (bA _) _).alloc oC _;have ar:((w.alloc (.deferred (bB []))).alloc (.loop (h .ready))).heap.size=w.heap.size+2:=oC
 have al:((w.alloc (.deferred (bB []))).alloc (.loop (h .ready))).heap[w.heap.size+1]?=bB (.loop (h .ready)):=by have:=cX (w.alloc (.deferred (bB []))) (.loop (h .ready));rwa[bP] at this
 have af:((w.alloc (.deferred (bB []))).alloc (.loop (h .ready))).heap[w.heap.size]?=bB (.deferred (bB [])):=
  (cJ _ _ _ oC).trans (cX w _)
 have ak:j [] ((w.alloc (.deferred (bB []))).alloc (.loop (h .ready))):=
  q _ _ _ bz (q _ _ _ bz Y (bZ w _ bz) oC) (bZ _ _ bz) oC
 refine⟨w.heap.size+1,[{ target:= .collected w.heap.size,args:=#[] }],(w.alloc (.deferred (bB []))).alloc (.loop (h .ready)),{ target:= .fn (.func gf) lb,args:=#[.func (.yield (w.heap.size+1)) #[] #[]] },(w.alloc (.deferred (bB []))).alloc (.loop (h .ready)),gf,
  #[.func (.yield (w.heap.size+1)) #[] #[]]++lb,(w.alloc (.deferred (bB []))).alloc (.loop (h .ready)),run_enterLoop_outer _ _ _ _ _,?_,?_,?_,fun _=>u,?_⟩
 simp only[resolve,aj];simp[go_sem];intro aw O;simp[Target.leads] at O;subst O;exact aa;simp[invoke,go_sem,X];refine(aq _ ar ac (w.heap.size+1) (fun m f=>j m f/\f.heap[w.heap.size+1]?=bB (.loop (h .ready))/\f.heap[w.heap.size]?=bB (.deferred (bB []))) ?_ ?_ ⟨ak,al,af⟩).mono ?_;rintro s A B ⟨u,C,D⟩ H;exact⟨q _ _ _ bz u H oC,(H.block _ (bL.1 C).1 oC).trans C,(H.block _ (bL.1 D).1 oC).trans D⟩;.
  rintro m x f ⟨I,y,G⟩ am;have an:=(bL.1 y).1;refine⟨fn,_,assign,body,run_yield (P:=P) (args:=nZ x) y (ao x),roundIn_of_wpIn ai (ad _ x f _ ?_)⟩;refine⟨_,run_beginRound y rfl,?_⟩;refine wpIn_mono (ae (w.heap.size+1) m x _ (q _ _ _ _ I (bT f (w.heap.size+1) _) fun r e=>by cases e;omega) am) ?_;rintro e av z U;cases e
  case' normal=>
   obtain⟨u,C,D,Z⟩:=U;have R:z.heap[w.heap.size+1]?=bB (.loop (h .busy)):=C.trans (cT an);have ag:z.heap[w.heap.size]?=bB (.deferred (bB [])):=u.trans ((cb oM).trans G);exact⟨_,_,run_endRound bz R,rfl,⟨q _ _ _ _ Z (bT z (w.heap.size+1) _) (fun r e=>by cases e;omega),cT (bL.1 R).1,(cb oM).trans ag⟩,
    ((iL.put f _ M).trans D).trans (iL.put z _ M)⟩
  rotate_left;rotate_left;rotate_left;rotate_left;all_goals exact U.elim
 rintro e W ⟨⟨v,rfl⟩,xs,ab,I,y,G⟩;exact⟨bz,_,run_endLoop (P:=P) y (by simp[h]),ah xs _ ab (q _ _ _ _ I (bT W (w.heap.size+1) _) fun r e=>by cases e;omega) ((cb oM).trans G)⟩
variable {F:cS} {n:Nat} {P:cG}
theorem rG {h:Option Nat} {b:Nat} {cs:Array bK} {t:b3} (f:Bx A b cs t) (m:A.grownBy B h) (q: ∀r,h=bB r-> ∃o:Obj,A.heap[r]?=bB o/\o.isCells=bO):Bx B b cs t:=by
 refine f.grown m fun e=>?_;obtain⟨o,g,j⟩:=q b e.symm;unfold Bx at f;rw[f] at g;cases g;cases j
variable {i:Int}{N k:Nat}
attribute [local go_sem] Oper.semAt_some
theorem iL.cell {T:Nat->Prop} {f g:bD} (h:iL T f g) {p:Addr} {v:bK} (q:T p.block) (j:f.cell? p=bB v):g.cell? p=bB v:=by
 obtain⟨o,m,_⟩:=cells_of_cell j;exact(cW ((h _ o q m).trans m.symm)).trans j
def rf (l:List PW):DataW Empty:=l.foldl (fun D x=>D.put (.int .i64 x.page) (.lit (.string x.data.data.toList))) (.map [])
theorem HX (l:List PW) (x:PW):rf (l++[x])=(rf l).put (.int .i64 x.page) (.lit (.string x.data.data.toList)):=by simp[rf]
theorem C5 (i:Int):WideAt.IsKeyLit (.int .i64 i):=by simp[WideAt.IsKeyLit]
theorem yK (i:Int): ∀(l:List PW) (D:DataW Empty) (s:ByteArray),Maps.IsMap D->D.atKey (.int .i64 i) (.lit (.string []))= .lit (.string s.data.toList)->
  Maps.has (l.foldl (fun D x=>D.put (.int .i64 x.page) (.lit (.string x.data.data.toList))) D) (.int .i64 i)=(Maps.has D (.int .i64 i)||l.any fun x=>x.page==i)/\
  (l.foldl (fun D x=>D.put (.int .i64 x.page) (.lit (.string x.data.data.toList))) D).atKey (.int .i64 i) (.lit (.string []))= .lit (.string (jl i l s).data.toList)
 | [],D,s,hD,h=>⟨oC,h⟩
 | x::l,D,s,hD,h=>by
  rw[cN,jl]
  by_cases e:x.page=i
  rw[if_pos e];obtain⟨f,g⟩:=yK i l (D.put (.int .i64 x.page) (.lit (.string x.data.data.toList))) x.data (hD.put _ _) (by rw[e];exact Maps.atKey_put_same hD (C5 i) _ _);refine⟨?_,g⟩;rw[f,e,Maps.has_put_same hD (C5 i)];simp[e];rw[if_neg e];have j:Lit.int .i64 i≠ .int .i64 x.page:=fun h=>by injection h with _ h;exact e h.symm
  obtain⟨f,g⟩:=yK i l (D.put (.int .i64 x.page) (.lit (.string x.data.data.toList))) s (hD.put _ _) (by rw[Maps.atKey_put_other j];exact h);refine⟨?_,g⟩;rw[f,Maps.has_put_other j,List.any_cons,show(x.page==i)=bO by simpa using e,Bool.false_or]
theorem C6 (i:Int) (l:List PW):Maps.has (rf l) (.int .i64 i)=l.any (fun x=>x.page==i):=by
 exact(yK i l (.map []) bI Maps.isMap_empty rfl).1
theorem C7 (i:Int) (l:List PW):(rf l).atKey (.int .i64 i) (.lit (.string []))= .lit (.string (jl i l bI).data.toList):=
 (yK i l (.map []) bI Maps.isMap_empty rfl).2
theorem HY {l:List PW}: ∀(s t:ByteArray),l.any (fun x=>x.page==i)=b8->jl i l s=jl i l t:=by
 induction l with
 | nil=>intro s t f;simp at f
 | cons x l g=>
  intro s t f;rw[jl,jl]
  by_cases e:x.page=i
  rw[if_pos e,if_pos e];rw[if_neg e,if_neg e];exact g s t (by simpa[e] using f)
theorem HZ {l:List PW}: ∀(s:ByteArray),l.any (fun x=>x.page==i)=bO->jl i l s=s:=by
 induction l with
 | nil=>intro s f;rfl
 | cons x l h=>
  intro s f;have g: ¬x.page=i/\l.any (fun x=>x.page==i)=false:=by simpa using f
  rw[jl,if_neg g.1];exact h s g.2
theorem C8 {F:cS} {q:Nat} {P:cG} (w:bD) {ops:Array Oper} {rest:List Oper} {o:Oper} {a:Act} {Q:Exit->Act->bD->Prop}
  (z:o.guard=bz) (m x:cC) (t:b3) (H:o.op=Op.lookup t m x b8)
  (k e:b3) (K:Maps.Keyed P k) (J:P.underlying t=bB (.map k e)) (j:P.underlying e=bB .string) (O:(zeroValue e).run P w= .ok (.string ⟨#[]⟩) w) (b n:Nat) (D:DataW Empty)
  (G:a.eval m= .map (bB b)) (I:w.ownsMap P k (cR P e) b n D) (key:bK) (kl:Lit) (M:a.eval x=key) (E:keyOf P k key=bB kl)
  (s:ByteArray) (u:D.atKey kl (.lit (.string []))= .lit (.string s.data.toList)) (h:Bool) (C:Maps.has D kl=h)
  (hK:wpListIn F q P ops Q rest (a.put o.dst (hG #[ht s, hA h])) w):
  wpListIn F q P ops Q (o::rest) a w:=
 wpListIn_lookup_own_ok w z m x t H k e K J (cR P e) O (.lit (.string [])) [] (plainElem_string j (s:=⟨#[]⟩) oF) b n D G I key kl M E (fun v R L=>by
  obtain⟨f,rfl,y,_⟩:=plainElem_string_inv j L;have g:f.data.toList=s.data.toList:=by have:=congrArg Prod.fst y;rw[u] at this;simpa using this.symm
  have r:f=s:=by cases f;cases s;simp at g;rw[g]
  rw[r,C];exact hK)
def uF (N k:Nat):List (Fin N):=(cm N).take k
theorem H0 (h:k<N):uF N (k+1)=uF N k++[⟨k,h⟩]:=by
 unfold uF;rw[db];simp[h]
theorem H2 (h:k<=N):(uF N k).length=k:=by simp[uF];omega
theorem H3 (N:Nat):uF N N=cm N:=by unfold uF;rw[List.take_of_length_le oC]
theorem H4 (F:cS) (n:Nat) (aj:F.fn 176) (aA:F.round=bz) (aJ:1<=n) (z:Nat) (d:ik) (po co:Option Addr) (pc cc:Nat) {S:Nat->Prop} (T:Nat->Prop) (W:bD)
  (G:mG d po co pc cc) (aC: ∀x∈d.gH,0<=x.page/\x.page<d.gG.length)
  (an: ∀b,S b->T b) (ao: ∀b,W.heap.size<=b->T b)
  (az:mW S W po d.gG) (au:iV S W co d.gH) (C:Bx W z #[.int .i64 d.size, ha po d.gG.length pc, ha co d.gH.length cc, .int .i64 d.left] 25):
  C4 F n bC 176 #[hE (bB ⟨z,0,bz⟩)] (fun x:Fin d.gG.length=>#[cI .i64 (x.1:Int), ht (nv d x.1 x.2)]) T (fun ys=>ys=cm d.gG.length) d.gG.length W:=by
 intro l ac ak aq ah;have aN:=G.gG;have aO:=G.gH;have aI:= @run_makeMap bC;have aM:=C.lt;refine cK func176 rfl aj ?_ aA;simp only[ntmps176,b6,j1,bV,cq,cp,bY,bX,b7,b0,b4,b1];have M:=C.alloc (.map #[] 0);have L:=M.cell 2;simp at L;gi_wp2
 gi_loopw [5,14] (fun _ i wr=> ∃k:Nat,k<=d.gH.length/\i= .int .i64 k/\W.grownBy wr bz/\wr.ownsMap bC 3 (cR bC 9) W.heap.size k (rf (d.gH.take k)))
  (fun _ i _=>d.gH.length - (intOf i).toNat)
 case atStart=>exact⟨0,b2 _,rfl,bZ W _ bz,by rw[List.take_zero];exact World.ownsMap_made W bC 3 (cR bC 9)⟩
 case round=>
  obtain⟨k,X,rfl,h,I⟩:=hrel;clear L M;have ai:Bx wr z #[.int .i64 d.size, ha po d.gG.length pc, ha co d.gH.length cc, .int .i64 d.left] 25:=C.grown h oC
  by_cases f:k<d.gH.length
  . obtain⟨b,y,rfl,j,R,Z⟩:=au k f;have av:wr.cell? ⟨b,y+k * 2,bz⟩=bB (.int .i64 d.gH[k].page):=Am h j oC;have aH:wr.cell? ⟨b,y+k * 2+1,bz⟩=bB (.string d.gH[k].data):=Am h R oC;obtain⟨aK,aL⟩:=aC d.gH[k] (ck f);have u:=Maps.keyOf_int_mk bU (q:= .i64) (a:=d.gH[k].page) (by simp[Lit.wf,IntKind.min,IntKind.max,IntKind.signed,IntKind.bits];omega);have aB:=plainElem_string (H:=Empty) cj (s:=d.gH[k].data) (by have:=G.rC d.gH[k] (ck f);simp[cr];omega);have ax:=I.alloc (.cells #[.int .i64 d.gH[k].page, .string d.gH[k].data] 80);clear j R;gi_wp2_with (gi_at_mapUpdate;refine wpListIn_mapUpdate_own _ rfl _ _ _ 234 rfl 3 9 (Maps.int_keyed bU) cE _ W.heap.size k _ rfl ax (by simp[cr];omega) _ _ _ rfl rfl u _ [] aB ?_;intro aP ay m);refine⟨⟨k+1,oM,oQ,?_,?_⟩,?_⟩;have g:W.grownBy (wr.alloc (.cells #[.int .i64 d.gH[k].page, .string d.gH[k].data] 80)) none:=h.trans (bZ wr _ bz);exact⟨m.os.trans g.os,m.tape.trans g.tape,m.output.trans g.output,jU g.size m.size,fun aa V _=>(m.block aa (iU V g.size) oN).trans (g.block aa V oC)⟩;rw[db,bJ f,Option.toList_some,HX];exact ay;simp[intOf];omega
  obtain rfl:k=d.gH.length:=oM
  rw[List.take_length] at I;obtain⟨ad,ap⟩:=nP wr;subst ap;have ae:=ai.cell 1;simp at ae;gi_wp2
  gi_loopw [6,7,8,9,27] (fun _ _ _ _ i ab=> ∃k:Nat,k<=d.gG.length/\i= .int .i64 k/\ac (uF _ k) ab/\iL T ad ab)
   (fun _ _ _ _ i _=>d.gG.length - (intOf i).toNat)
  case atStart=>exact⟨0,b2 _,rfl,ak _ _ _ ah h,iL.refl _ _⟩
  case round=>
   obtain⟨k,X,rfl,O,D⟩:=hrel
   by_cases f:k<d.gG.length
   .
    obtain⟨b,y,rfl,j,Z⟩:=az k f;have av:wr.cell? ⟨b,y+k,bz⟩=bB (ht d.gG[k]):=D.cell (an b Z) (Am h j oC);have Y:wr.ownsMap bC 3 (cR bC 9) W.heap.size d.gH.length (rf d.gH):=by obtain⟨ag,af,ar,rest⟩:=I;exact⟨ag,af,D _ _ (ao _ (bA _)) ar,rest⟩
    have u:=Maps.keyOf_int_mk bU (q:= .i64) (a:=(k:Int)) (by simp[Lit.wf,IntKind.min,IntKind.max,IntKind.signed,IntKind.bits];omega);have U:nv d k f=jl k d.gH d.gG[k]:=rfl;obtain⟨aG,tmps,aE,aF,J,am⟩:=aq _ ⟨k,f⟩ wr O (by rw[H2 X];exact f);dsimp only at J;clear j;cases r:d.gH.any fun x=>x.page==(k:Int);focus have E:=HZ d.gG[k] r;rw[U,E] at J;gi_wp2_with (gi_at_lookup;refine C8 _ rfl _ _ 234 rfl 3 9 (Maps.int_keyed bU) cE cj (cy _) W.heap.size _ _ rfl Y _ _ rfl u _ (C7 _ _) bO ((C6 _ _).trans r) ?_)
    rotate_left;focus have E:=HY d.gG[k] bI r;rw[U,E] at J;gi_wp2_with (gi_at_lookup;refine C8 _ rfl _ _ 234 rfl 3 9 (Maps.int_keyed bU) cE cj (cy _) W.heap.size _ _ rfl Y _ _ rfl u _ (C7 _ _) b8 ((C6 _ _).trans r) ?_)
    all_goals
     refine am.mono ?_;rintro e aD ⟨rfl,al,aw⟩;gi_wp2;go_roundw;case rel=>exact⟨k+1,oM,oQ,by rw[H0 f];exact al,D.trans aw⟩
     case measure=>simp[intOf];omega
   obtain rfl:k=d.gG.length:=oM
   gi_wp2;go_end0;exact⟨⟨_,rfl⟩,_,rfl,by rw[<-H3];exact O⟩
theorem H5 (F:cS) (n:Nat) (f:F.fn 127) (g:F.round=bz) (v0 v1 v2 v3:bK) (w:bD):
  CallsIn F n bC 127 #[hF #[v0,v1,v2,v3]] w fun e w'=>e= gE (.func (.func 176) #[] #[hE (bB ⟨w.heap.size,0,bz⟩)])/\w'=w.alloc (hI #[v0,v1,v2,v3] 25):=by
 refine cK func127 rfl f ?_ g;simp only[ntmps127,b6,j1,bV,cq,cp,bY,bX,b7,b0,b4,b1];gi_wp2;go_ret;exact⟨rfl,rfl⟩
variable {α:Type}{S:Nat->Prop}
attribute [local go_sem] Oper.semAt_some
def upto {α:Type} (f:Nat->α) (k:Nat):List α:=(List.range k).map f
theorem Ay (f:Nat->α) (k:Nat):upto f (k+1)=upto f k++[f k]:=by simp[upto,List.range_succ]
theorem H6 (f:Nat->α) (k:Nat):(upto f k).length=k:=by simp[upto]
def qg (l:List PW) (j:Nat):Int×PW:=((l.length:Int) - 1 - j,l[l.length - 1 - j]?.getD ⟨0,bI⟩)
theorem H7 (F:cS) (n:Nat) (Y:F.fn 124) (ag:F.round=bz) (aq:1<=n) (l j C I:Nat) (o:Option Addr) (zs:List PW) (ar:zs.length<=140737488351232) (ab: ∀b,S b->b<C) (q H:List (Int×PW)->bD->Prop)
  (ac: ∀g x f,q g f->g.length<zs.length->YieldAt F (n - 1) bC l #[.int .i64 x.1, hF #[.int .i64 x.2.page, ht x.2.data]] f fun e h=>
   (e= gE (hA b8)/\q (g++[x]) h/\bG C f h)\/(e= gE (hA bO)/\H (g++[x]) h))
  (f:bD) (W:j<C) (X:f.cell? ⟨j,0,bz⟩=bB (ha o zs.length I))
  (ad:iV S f o zs) (V:q [] f):
  CallsIn F n bC 124 #[.func (.yield l) #[] #[], hE (bB ⟨j,0,bz⟩)] f fun e h=>(∃v,e= gE v)/\
   ((∃ys,ys=upto (qg zs) zs.length/\q ys h)\/(∃g,(∃k,k<=zs.length/\g=upto (qg zs) k)/\H g h)):=by
 refine cK func124 rfl Y ?_ ag;simp only[ntmps124,b6,j1,bV,cq,cp,bY,bX,b7,b0,b4,b1];gi_wp2
 gi_loopw [3] (fun i wr=> ∃k:Nat,k<=zs.length/\i= .int .i64 ((zs.length:Int) - 1 - k)/\q (upto (qg zs) k) wr/\bG C f wr)
  (fun i _=>(intOf i+1).toNat)
 case atStart=>exact⟨0,b2 _,oQ,V,bE _ _⟩
 case round=>
  obtain⟨k,ap,rfl,E,z⟩:=hrel
  by_cases af:k<zs.length
  .
   have al:wr.cell? ⟨j,0,bz⟩=bB (ha o zs.length I):=(z.cell (p:=⟨j,0,bz⟩) W).trans X;obtain⟨m,G⟩: ∃m:Nat,m=zs.length - 1 - k:=⟨_,rfl⟩;have R:m<zs.length:=oM
   have y:(zs.length:Int) - 1 - k=m:=oM
   obtain⟨b,D,rfl,L,M,u⟩:=ad m R;have u:=ab b u;have r:qg zs k=((m:Int),zs[m]):=by rw[qg, <-G,y,bJ R];rfl
   have am:=E;obtain⟨ak,tmps,ai,aj,U,J⟩:=ac _ (qg zs k) wr E (by rw[H6];exact af);rw[r] at U J;have r:=gF r;dsimp only at U;have an:wr.cell? ⟨b,D+m * 2,bz⟩=bB (.int .i64 zs[m].page):=(z.cell (p:=⟨b,D+m * 2,bz⟩) u).trans L;have ao:wr.cell? ⟨b,D+m * 2+1,bz⟩=bB (ht zs[m].data):=(z.cell (p:=⟨b,D+m * 2+1,bz⟩) u).trans M;rw[y];have O:=gF (gK G y);clear G y L M;gi_wp2;refine J.mono ?_;rintro e ah (⟨rfl,Z,ae⟩|⟨rfl,aa⟩);.
    gi_wp2;go_roundw;case rel=>exact⟨k+1,oM,by have:=O.o.2;go_num,by rw[Ay,r.o];exact Z,z.trans ae⟩
    case measure=>have:=O.o.2;simp[intOf]<;>(try omega)
   gi_wp2;refine bQ (results_none rfl _ _ _) rfl ?_;exact⟨⟨_,rfl⟩, .inr ⟨_,⟨k+1,oM,by rw[Ay,r.o]⟩,aa⟩⟩
  obtain rfl:k=zs.length:=oM
  gi_wp2;go_end0;exact⟨⟨_,rfl⟩, .inl ⟨_,rfl,E⟩⟩
theorem H8 (F:cS) (n:Nat) (h:F.fn 82) (j:F.round=bz) (a:Option Addr) (g f:Nat) (w:bD):
  CallsIn F n bC 82 #[ha a g f] w fun e w'=>e= gE (.func (.func 124) #[] #[hE (bB ⟨w.heap.size,0,bz⟩)])/\w'=w.alloc (hI #[ha a g f] 23):=by
 refine cK func82 rfl h ?_ j;simp only[ntmps82,b6,j1,bV,cq,cp,bY,bX,b7,b0,b4,b1];gi_wp2;go_ret;exact⟨rfl,rfl⟩
theorem H9 (F:cS) (n:Nat) (C:F.fn 124) (J:F.round=bz) (H:1<=n) (f g h:Nat) (o:Option Addr) (zs:List PW) (I:zs.length<=140737488351232) (D: ∀b,S b->b<g) (w:bD) (z:f<g) (M:g<=w.heap.size)
  (y:w.cell? ⟨f,0,bz⟩=bB (ha o zs.length h)) (G:iV S w o zs):
  SeqStopsK F n bC 124 #[hE (bB ⟨f,0,bz⟩)] (fun x:Int×PW=>#[cI .i64 x.1, hF #[.int .i64 x.2.page, ht x.2.data]]) (bG g) (fun ys=>ys=upto (qg zs) zs.length)
   (fun L=> ∃k,k<=zs.length/\L=upto (qg zs) k) zs.length w:=fun l m q r j _ _ E u=>
 H7 F n C J H l f g h o zs I D m q E r z ((j.cell (p:=⟨f,0,bz⟩) (show f<w.heap.size by omega)).trans y) (G.below j) u
variable {k:Nat}{i:Int}
attribute [local go_sem] Oper.semAt_some
theorem C9 {l:List PW} (h:k<=l.length) {x:PW} (g:x∈l.drop (l.length - k)): ∃p∈upto (qg l) k,p.2=x:=by
 obtain⟨m,f,rfl⟩:=List.mem_iff_getElem.1 g;have j:m<k:=by simp at f;omega
 refine⟨qg l (k - 1 - m),cH.2 ⟨k - 1 - m,List.mem_range.2 oM,rfl⟩,?_⟩;have e:l.length - 1 - (k - 1 - m)=l.length - k+m:=oM
 simp[qg,e];rw[bJ oM];rfl
theorem Da {l:List PW} (h: ∀x∈l,(x.page==i)=bO) (s:ByteArray):jl i l s=s:=by
 induction l generalizing s with
 | nil=>rfl
 | cons x l g=>rw[jl,if_neg (by simpa using h x oC),g fun j f=>h j (by simp[f])]
theorem Db (a b:List PW) (s:ByteArray):jl i (a++b) s=jl i b (jl i a s):=by
 induction a generalizing s with
 | nil=>rfl
 | cons g a f=>rw[b1,jl,jl,f]
theorem Ia {l:List PW} (h: ∀p∈upto (qg l) l.length,(p.2.page==i)=bO) (s:ByteArray):jl i l s=s:=
 Da (fun x g=>by obtain⟨p,f,rfl⟩:=C9 (bA l.length) (x:=x) (by simpa using g);exact h p f) s
theorem Ib {l:List PW} (j:k<l.length) (h: ∀p∈upto (qg l) k,(p.2.page==i)=bO) (f:((qg l k).2.page==i)=b8) (s:ByteArray):jl i l s=(qg l k).2.data:=by
 have e:l=l.take (l.length - 1 - k)++(l[l.length - 1 - k]::l.drop (l.length - k)):=by rw[show l.length - k=l.length - 1 - k+1 by omega, <-bH,List.take_append_drop]
 have g:(qg l k).2=l[l.length - 1 - k]:=by simp[qg,bJ (show l.length - 1 - k<l.length by omega)]
 rw[g] at f |-;rw[show jl i l s=jl i (l.take (l.length - 1 - k)++(l[l.length - 1 - k]::l.drop (l.length - k))) s by rw[<-e],Db,jl,if_pos (by simpa using f)];exact Da (fun q f=>by obtain⟨p,m,rfl⟩:=C9 (Nat.le_of_lt j) f;exact h p m) _
theorem Ic (d:ik) (v:bK) (i:Int) (w:bD) {S:Nat->Prop} (a0:nR S w) (ah:ja S w v d):
  bW bC 41 #[v, .int .i64 i] w fun e w'=>e= gE (hG #[ht (lO d i).1, .int .i64 (lO d i).2])/\bG w.heap.size w w':=by
 have aZ:=ah;obtain⟨po,pc,co,cc,rfl,C,au,aP⟩:=ah;have bh:=aP.gG;have a8:=aP.gH;have a3: ∀k (ag:k<d.gG.length),∃b ak,po=bB ⟨b,ak,bz⟩/\w.cell? ⟨b,ak+k,bz⟩=bB (ht d.gG[k]):=fun k ag=>by obtain⟨b,ak,e,aq,_⟩:=C k ag;exact⟨b,ak,e,aq⟩
 obtain⟨n,be⟩: ∃n,9<=n:=⟨9,bA _⟩;refine(cB (n:=n)).1 ?_;have aj:Fence.wide.round=none:=rfl;have aq:1<=n:=oM
 refine callsIn_of_wp_marks func41 rfl trivial ?_ aj;simp only[ntmps41,b6,j1,bV,cq,cp,bY,bX,b7,b0,b4,b1];generalize q:lO d i=res;unfold lO at q;have aF: ∀aL aM aN aO,bG w.heap.size w ((((w.alloc aL).alloc aM).alloc aN).alloc aO):=fun aL aM aN aO=>
  ((((bE _ _).alloc (bA _) _).alloc oC _).alloc oN _).alloc oN _
 gi_wp2_with (refine⟨trivial,?_⟩;gi_at_call 43;refine(cB.2 (su d _ _ (aZ.below (aF _ _ _ _)))).mono ?_);rintro e w1 ⟨rfl,H⟩;have J:=((((Bx.new w #[.int .i64 d.size, ha po d.gG.length pc, ha co d.gH.length cc, .int .i64 d.left] 25).alloc (hI #[.int .i64 i] 3)).alloc (hI #[ht ⟨#[]⟩] 9)).alloc (hI #[.int .i64 0] 28)).gD H;have al:=(((Bx.ir (w.alloc (hI #[.int .i64 d.size, ha po d.gG.length pc, ha co d.gH.length cc, .int .i64 d.left] 25)) #[.int .i64 i] 3 (w.heap.size+1) oC).alloc (hI #[ht ⟨#[]⟩] 9)).alloc (hI #[.int .i64 0] 28)).gD H;have ae:=((Bx.ir ((w.alloc (hI #[.int .i64 d.size, ha po d.gG.length pc, ha co d.gH.length cc, .int .i64 d.left] 25)).alloc (hI #[.int .i64 i] 3)) #[ht ⟨#[]⟩] 9 (w.heap.size+1+1) oC).alloc (hI #[.int .i64 0] 28)).gD H;have ad:=(Bx.ir (((w.alloc (hI #[.int .i64 d.size, ha po d.gG.length pc, ha co d.gH.length cc, .int .i64 d.left] 25)).alloc (hI #[.int .i64 i] 3)).alloc (hI #[ht ⟨#[]⟩] 9)) #[.int .i64 0] 28 (w.heap.size+1+1+1) oC).gD H;have ar:bG w.heap.size w w1:=(aF _ _ _ _).trans (H.mono oN);have bg:w.heap.size+4<=w1.heap.size:=by have:=H.size;simp at this;omega
 clear H;have aB:=J.cell 0;have af:=J.cell 1;have aC:=J.cell 2;have aD:=J.cell 3;have O:=al.cell 0;have E:=ae.cell 0;have D:=ad.cell 0;have ap:=ae.free 0;have ao:=ad.free 0;have ay:=ae.lt;have ax:=ad.lt;have a6:=J.lt;have a7:=al.lt;simp at aB af aC aD O E D;cases aJ:(iW d !=0);focus
  rw[if_neg (by simpa using aJ)] at q
  by_cases aw:i<0
  focus rw[if_pos aw] at q
  rotate_left;focus
   rw[if_neg aw] at q;obtain⟨k,rfl⟩:=bS (Int.not_lt.1 aw);rw[cw] at q
   by_cases av:k<d.gG.length
   .
    rw[dif_pos av] at q;subst q;obtain⟨ac,sI,rfl,aG⟩:=a3 k av;gi_wp2_with (refine⟨trivial,?_⟩;gi_at_call 82;refine(H8 Fence.wide _ trivial aj _ _ _ _).mono ?_;rintro e w' ⟨rfl,rfl⟩);obtain⟨W0,y⟩:=nM (w1.alloc (hI #[ha co d.gH.length cc] 23));have aQ:Bx W0 w1.heap.size #[ha co d.gH.length cc] 23:=by rw[<-y];exact Bx.new _ _ _
    have aR:=J.alloc (hI #[ha co d.gH.length cc] 23);rw[y] at aR;have aT:=al.alloc (hI #[ha co d.gH.length cc] 23);rw[y] at aT;have aU:=ae.alloc (hI #[ha co d.gH.length cc] 23);rw[y] at aU;have aS:=ad.alloc (hI #[ha co d.gH.length cc] 23);rw[y] at aS;have aE:bG w.heap.size w W0:=by rw[<-y];exact ar.alloc oM _
    have a2:iV S W0 co d.gH:=au.below aE;have a1: ∀b,S b->b<w1.heap.size+1:=fun b ag=>by have:=a0 b ag;omega
    have bf:W0.heap.size=w1.heap.size+1:=by rw[<-y];simp
    rw[y];clear y J al ae ad aB af aC aD O E D ap ao ay ax a6 a7;refine wpIn_rangeFunc_ownH aj aq (gf:=124) (lb:=#[hE (bB ⟨w1.heap.size,0,bz⟩)]) rfl trivial (enters_of func124 oP rfl)
     (H9 Fence.wide (n - 1) trivial aj oM w1.heap.size (w1.heap.size+1) cc co d.gH a8 a1 W0 oM oM (aQ.cell 0) a2) belowK_t (belowK_b oM) (bE _ _) (fun _=>rfl)
     (fun I f=>((((∀p∈I,(p.2.page==(k:Int))=bO)/\Bx f (w.heap.size+1) #[.int .i64 k] 3)/\Bx f (w.heap.size+1+1) #[ht ⟨#[]⟩] 9/\Bx f (w.heap.size+1+1+1) #[.int .i64 0] 28)/\Bx f w.heap.size #[.int .i64 d.size, ha (bB ⟨ac,sI,bz⟩) d.gG.length pc, ha co d.gH.length cc, .int .i64 d.left] 25)/\bG w.heap.size w f/\Bx f w1.heap.size #[ha co d.gH.length cc] 23)
     (fun c I f=>((c= .ret/\ ∃ab last,I=ab++[last]/\(∀p∈ab,(p.2.page==(k:Int))=bO)/\(last.2.page==(k:Int))=b8/\Bx f (w.heap.size+1+1) #[ht last.2.data] 9)/\Bx f (w.heap.size+1+1+1) #[.int .i64 0] 28)/\bG w.heap.size w f)
     (OwnFrom.and (Own.from (fun s A B az r m j=>⟨⟨⟨r.1.1.1,rG r.1.1.2 m j⟩,rG r.1.2.1 m j,rG r.1.2.2 m j⟩,rG r.2 m j⟩) _) (OwnFrom.and (ownFrom_below (bA _) oM) (Own.from (fun s A B az r m j=>rG r m j) _)))
     (fun c=>OwnFrom.and (Own.from (fun s A B az r m j=>by obtain⟨⟨au,ab,last,G,Z,aa,aX⟩,an⟩:=r;exact⟨⟨au,ab,last,G,Z,aa,rG aX m j⟩,rG an m j⟩) _) (ownFrom_below (bA _) oM))
     ⟨⟨⟨⟨oC,aT⟩,aU,aS⟩,aR⟩,aE,aQ⟩
     (fun u am f=> ∃L,w1.heap.size<L/\Bx f L #[.int .i64 u.2.page, ht u.2.data] 80/\am={ tmps:=#[hF #[.int .i64 d.size, ha (bB ⟨ac,sI,bz⟩) d.gG.length pc, ha co d.gH.length cc, .int .i64 d.left], .int .i64 k, hE (bB ⟨w.heap.size,0,bz⟩), hE (bB ⟨w.heap.size+1,0,bz⟩), hE (bB ⟨w.heap.size+1+1,0,bz⟩), hE (bB ⟨w.heap.size+1+1+1,0,bz⟩),cg, hE (bB ⟨L,0,bz⟩), hA bO, hF #[.int .i64 d.size, ha (bB ⟨ac,sI,bz⟩) d.gG.length pc, ha co d.gH.length cc, .int .i64 d.left], .int .i64 (iW d), hA bO, hA (decide ((k:Int)<0)), .int .i64 k, hA (decide ((k:Int)<0)), hA (decide ((k:Int)<0)), .int .i64 k, hE (bB ⟨w.heap.size,1,bz⟩), ha (bB ⟨ac,sI,bz⟩) d.gG.length pc, .int .i64 d.gG.length, hA bO, hA (decide ((k:Int)<0)), hE (bB ⟨w.heap.size,2,bz⟩), ha co d.gH.length cc, .func (.func 124) #[] #[hE (bB ⟨w1.heap.size,0,bz⟩)], .int .i64 u.1, hF #[.int .i64 u.2.page, ht u.2.data],cg,cg,cg,cg,cg,cg,cg,cg,cg,cg,cg],defers:=[] })
     (fun u am a9 a' az s r m j=>by obtain⟨L,G,Z,aa⟩:=r;exact⟨L,G,rG Z m fun U e=>(j U e).2,aa⟩)
     ?assign ?body ?done ?stop
    case assign=>rintro l I u f K ⟨⟨⟨⟨C,M⟩,g,h⟩,V⟩,x,W⟩ hK;have a5:=W.lt;gi_wp2;exact hK _ _ ((KeepsOthers.alloc _ _).from _) ((bE _ f).alloc oM _) ⟨⟨⟨⟨C,M.alloc _⟩,g.alloc _,h.alloc _⟩,V.alloc _⟩,x.alloc x.size _,W.alloc _⟩ ⟨f.heap.size,a5,Bx.new f _ _,rfl⟩
    case body=>
     rintro l I u am f aH ⟨U,j⟩ ⟨⟨⟨⟨C,M⟩,g,h⟩,V⟩,x,W⟩ ⟨L,ba,aA,rfl⟩ bd;have O:=M.cell 0;have E:=g.cell 0;have D:=h.cell 0;have aV:=aA.cell 0;have aW:=aA.cell 1;have ap:=g.free 0;have ao:=h.free 0;have ay:=g.lt;have ax:=h.lt;simp at O E D aV aW;cases aI:(u.2.page==(k:Int));. gi_wp2;exact⟨KeepsFrom.refl _ _,bE _ _,⟨⟨⟨fun p a4=>(jD.1 a4).elim (C p) (fun e=>by simp at e;subst e;exact aI),M⟩,g,h⟩,V⟩,x,W⟩
     gi_wp2;exact⟨((bN _ _ _).trans (bN _ _ _)).from _,⟨⟨rfl,I,u,rfl,C,aI,(g.set 0 (ht u.2.data)).jc oC _⟩,(h.jc (a:=⟨w.heap.size+1+1,0,bz⟩) oC _).set 0 (.int .i64 0)⟩,
      iT (b:=w.heap.size+1+1+1) (iT (b:=w.heap.size+1+1) x oM) oM⟩
    case done=>
     rintro z bi f ah rfl ⟨⟨⟨⟨C,M⟩,g,h⟩,V⟩,x,W⟩ hK;have aH:=Ia C d.gG[k];have af:=V.cell 1;have O:=M.cell 0;have E:=g.cell 0;have D:=h.cell 0;have ap:=g.free 0;have ao:=h.free 0;have ay:=g.lt;have ax:=h.lt;have bb:f.cell? ⟨ac,sI+k,bz⟩=bB (ht d.gG[k]):=by rw[x.cell (bF w _ aG)];exact aG
     simp at af O E D;gi_wp2;have ai:=((bN f ⟨w.heap.size+1+1,0,bz⟩ (ht d.gG[k])).trans (bN _ ⟨w.heap.size+1+1+1,0,bz⟩ (.int .i64 0))).same z _ hK rfl;have aY:bG w.heap.size w ((f.setCell ⟨w.heap.size+1+1,0,bz⟩ (ht d.gG[k])).setCell ⟨w.heap.size+1+1+1,0,bz⟩ (.int .i64 0)):=iT (b:=w.heap.size+1+1+1) (iT (b:=w.heap.size+1+1) x oM) oM;refine⟨oC, .inl ⟨_,_,rfl,cQ ai,?_⟩⟩;have X:=((rG ((g.set 0 (ht d.gG[k])).jc (a:=⟨w.heap.size+1+1+1,0,bz⟩) oC (.int .i64 0)) (bT _ z (.deferred bz)) fun U e=>by cases e;exact⟨_,ai,rfl⟩)).cell 0;have Y:=((rG ((h.jc (a:=⟨w.heap.size+1+1,0,bz⟩) oC (ht d.gG[k])).set 0 (.int .i64 0)) (bT _ z (.deferred bz)) fun U e=>by cases e;exact⟨_,ai,rfl⟩)).cell 0;simp at X Y;refine⟨hG #[ht d.gG[k], .int .i64 0],?_,by rw[nv,aH],aY.trans (belowK_b (w:=w) (bA _) _ z _ _ oM ai rfl rfl)⟩;simp[b5,f41,go_sem,X,Y]
    case stop=>
     rintro z c I f ah ⟨aK,bc,rfl⟩ ⟨⟨⟨rfl,ab,last,G,Z,aa,g⟩,h⟩,x⟩ hK;gi_wp2;refine⟨oC, .inl ⟨_,_,rfl,cQ hK,?_⟩⟩;have X:=(rG g (bT _ z (.deferred bz)) fun U e=>by cases e;exact⟨_,hK,rfl⟩).cell 0;have Y:=(rG h (bT _ z (.deferred bz)) fun U e=>by cases e;exact⟨_,hK,rfl⟩).cell 0;simp at X Y;obtain⟨R,rfl⟩: ∃R,aK=R+1:=by
      cases aK with
      | zero=>simp[upto] at G
      | succ R=>exact⟨R,rfl⟩
     rw[Ay] at G;obtain⟨rfl,an⟩:=List.append_inj' G rfl;obtain rfl:qg d.gH R=last:=by simpa using an
     refine⟨hG #[ht (qg d.gH R).2.data, .int .i64 0],?_,by rw[nv,Ib oM Z aa],x.trans (belowK_b (w:=w) (bA _) f z _ _ oM hK rfl rfl)⟩;simp[b5,f41,go_sem,X,Y]
   focus rw[dif_neg av] at q
  all_goals subst q;gi_wp2;refine⟨hG #[ht bI, .int .i64 2],?_,rfl,iT (b:=w.heap.size+1+1+1) (iT (b:=w.heap.size+1+1) ar oM) oM⟩
 rotate_left 2;focus rw[if_pos (by simpa using aJ)] at q;subst q;gi_wp2;refine⟨hG #[ht bI, .int .i64 1],?_,rfl,iT (b:=w.heap.size+1+1+1) (iT (b:=w.heap.size+1+1) ar oM) oM⟩
 all_goals simp[b5,f41,go_sem,E,D];all_goals first|rfl|omega
variable {S T:Nat->Prop}
theorem Dc {gP:List Int} {f:Int} {l:List PW} {k:Nat} (h:k<l.length) (ps:List ByteArray):
  nG gP f k (l.drop k) ps=nG gP f (k+1) (l.drop (k+1)) (ps.set l[k].page.toNat (mX (sr gP k f).toNat l[k].data (ps.getD l[k].page.toNat bI))):=by
 rw[bH h,nG]
theorem yL {n:Nat} {a b:ByteArray} (f:n<=a.size) (g:a.size=b.size):(mX n a b).size=b.size:=by
 unfold mX;rw[ByteArray.size_append,cO,cO];omega
theorem Dd {d:ik} {ps:List ByteArray} {o:Option Addr} {c:Nat} (f:jk o ps.length c) (m:ps.length<=2000) (h: ∀s∈ps,(s.size:Int)<=512):mG ⟨d.size,ps,[],-1⟩ o bz c 0:=by
 refine⟨f, .inl ⟨rfl,rfl,rfl⟩,oN,oC,?_,oC,oC⟩;intro j g;have:=h j g;omega
theorem Ie (d:ik) (v:bK) (gP:List Int) (y:Option Addr) (aa:Nat) (w:bD) (_hS:nR S w) (ag:ja S w v d) (aN:lp T w y gP) (bb:gP.length<=1000000) (a':d.gH.length<=1000000) (av:iW d=0):
  bW bC 33 #[v, ha y gP.length aa] w (tN S w ⟨d.size,nG gP d.size 0 d.gH d.gG,[],-1⟩):=by
 obtain⟨v1,v2,v3,bj⟩:=nY av;have ap:=pd v1;have bd:(iW d !=0)=false:=by simp[av]
 have aF:=ag;obtain⟨po,pc,co,cc,rfl,aK,aG,aX⟩:=ag;have bf:=aX.gG;obtain⟨aW,ai,aU,aw,aV⟩:=info_parts xu;have R: ∀o ax,bG w.heap.size w ((w.alloc o).alloc ax):=fun o ax=>((bE _ _).alloc (bA _) _).alloc oC _;go_enter func33,ntmps33;go_wp2_with fail;refine(su d _ _ (aF.below (R _ _))).mono ?_;rintro e w1 ⟨rfl,H⟩;have m:=((Bx.new w _ _).alloc _).gD H;have q:=(Bx.new (w.alloc _) _ _).gD H;rw[bP] at q;obtain⟨r,u⟩:=m.cf;obtain⟨M,ae⟩:=q.cf;have j:bG w.heap.size w w1:=(R _ _).trans (H.mono oN);have a8:=q.lt;have a5:=m.lt;have aj:=(aK.below (R _ _)).below H;have aR:=gF v2;have aS:=gF v3;have aL:d.gG.length<=2000:=oM
 have bc:1<=d.size/\d.size<=512:=ap.2.2;clear v2 v3 ap;go_wp2_with (first
  | (refine CQ rfl (.tmp 15) (.tmp 15) 22 rfl 9 aW _ 16 cv ai aU aw aV rfl d.gG.length rfl rfl oM oM ?_;intro bk h C be;have ac:=m.grown C oC;have aC:=q.grown C oC;have af:=j.grown C oM (by intro k e;cases e);have ak:=aj.below ((bE _ _).grown C (bA _) (by intro k e;cases e));clear r u M ae;obtain⟨r,aI,u⟩:=ac.c3)
  | (refine Hq rfl (.tmp 17) (.tmp 19) _ _ rfl 9 cv (by rw[ai];simp[aw]) w1.heap.size d.gG.length d.gG.length pc po (bM d.gG.length (.string .empty)) (d.gG.map .string) 9 rfl rfl h oC oC ak.row (CS _) ?_;intro bl aB I;have ad:=ac.grown I (fun e=>by have e:=cu e;omega);have aD:=aC.grown I (fun e=>by have e:=cu e;omega);have O:=af.grown I oM (by intro k e;cases e;omega);clear r u;obtain⟨r,aJ,u⟩:=ad.c3))
 have ba:=gF O
 go_loopw [24] (fun Z wr=> ∃(k:Nat) (f:List ByteArray),k<=d.gH.length/\Z= .int .i64 k/\f.length=d.gG.length/\(∀s∈f,(s.size:Int)=d.size)/\nG gP d.size k (d.gH.drop k) f=nG gP d.size 0 d.gH d.gG/\Bx wr w1.heap.size (f.map ch).toArray 9/\Bx wr w.heap.size #[.int .i64 d.size, ha po d.gG.length pc, ha co d.gH.length cc, .int .i64 d.left] 25/\Bx wr (w.heap.size+1) #[.int .i64 0, ha bz 0 0, ha bz 0 0, .int .i64 0] 25/\bG w.heap.size w wr) (fun Z _=>d.gH.length - (intOf Z).toNat)
 case atStart=>exact⟨0,d.gG,b2 _,rfl,rfl,aR.o,rfl,aB,ad,aD,O⟩
 case round=>
  clear r u ac ad aC aD h aB C I af O ak aj aI aJ;obtain⟨k,f,a4,rfl,al,am,an,h,m,q,j⟩:=hrel;have ao:=gF an;have Y:=gF am;have D:=gF al;clear an am al;obtain⟨r,u⟩:=m.cf;have a7:=h.lt;have a6:=m.lt
  by_cases W:k<d.gH.length
  .
   obtain⟨b,ay,rfl,U,V,_⟩:=aG k W;have ah:wr.cell? ⟨b,ay+k * 2,bz⟩=bB (.int .i64 d.gH[k].page):=by rw[j.cell (bF w _ U)];exact U
   have aH:wr.cell? ⟨b,ay+k * 2+1,bz⟩=bB (ht d.gH[k].data):=by rw[j.cell (bF w _ V)];exact V
   have a3:b<wr.heap.size:=bF wr _ ah;obtain⟨aA,aZ,ab⟩:=aS.o d.gH[k] (ck W);generalize au:d.gH[k]=x at *;obtain⟨bm,L⟩:=x;simp only at aA aZ ab ah aH;obtain⟨g,rfl⟩:=bS aA;have X:g<f.length:=by rw[D.o];omega
   have a1:wr.cell? ⟨w1.heap.size,g,bz⟩=bB (ht f[g]):=by rw[h.cell];simp[X]
   have a2:wr.frozen? ⟨w1.heap.size,g,bz⟩=false:=h.free g;have aq:=Y.o f[g] (ck X);obtain⟨az,aY⟩:=Au gP k d.size oM;obtain⟨t,J⟩:=bS az;have aQ: ∀z,lp T z y gP->bW bC 67 #[ha y gP.length aa, .int .i64 k, .int .i64 d.size] z fun e w'=>e= gE (.int .i64 t)/\z=w':=fun z G=>J▸Hz gP y aa k d.size oM oM oM oM z G;have aO:lp T wr y gP:=aN.below j;rw[J] at az aY;have aP:=gF J;have aT:=gF au;have ar:=gF aq;have a0:=gF ab;have bg:t<=L.size:=oM
   have bh:t<=f[g].size:=oM
   have bi: ¬9223372036854775807<f[g].size:=oM
   clear J au aq ab U V;go_wp2_with (go_at_call 67;refine(aQ _ (aO.below ((bE _ _).alloc (bA _) _))).mono ?_;rintro e w' ⟨rfl,rfl⟩);refine wp_region_still_tail 16 oP oP ?_;simp only[jC,World.drew_eq];repeat still_step
   refine wpStill_nil ?_;go_wp2;go_roundw;case rel=>
    have aE:f.getD ((g:Int)).toNat bI=f[g]:=by simp[X]
    refine⟨k+1,f.set g (mX t L f[g]),oM,oQ,by rw[List.length_set];exact D.o,?_,?_,?_,(m.jc oN _).alloc _,(q.jc oN _).alloc _,((iT (b:=w1.heap.size) j oM).alloc oN _).drew⟩;intro s E;rcases List.mem_or_eq_of_mem_set E with E|rfl;exact Y.o s E;rw[yL oM (by have:=a0.o;have:=ar.o;omega)];exact ar.o;rw[<-ao.o,Dc W,aT.o];simp only;rw[aE,aP.o];simp;have:=(h.set g (ch (mX t L f[g]))).alloc (hI #[cI IntKind.i64 g,ch L] 80);simpa[List.map_set,mX] using this.drew
   case measure=>simp[intOf];omega
  obtain rfl:k=d.gH.length:=oM
  have aM:Hid (nG gP d.size 0 d.gH d.gG=f):=by unfold Hid;rw[<-ao.o,List.drop_length];rfl
  obtain⟨M,a9,ae⟩:=q.c3;go_wp2;refine bQ (v:= hF #[.int .i64 d.size, ha (bB ⟨w1.heap.size,0,bz⟩) d.gG.length d.gG.length, ha bz 0 0, .int .i64 (-1)]) (by simp[b5,results33,go_sem,M]) rfl ?_;rw[aM.o];refine⟨_,rfl,⟨bB ⟨w1.heap.size,0,bz⟩,d.gG.length,bz,0,by simp only[D.o,bV],?_,by intro i G;simp at G,Dd (.inr ⟨_,rfl,by rw[D.o];exact bA _,by simp[cr];omega⟩) (by rw[D.o];exact aL) fun s E=>by have:=Y.o s E;omega⟩,?_⟩;refine mW.mono (S:=(· =w1.heap.size)) ?_ fun b G=>Gr.new oM oN;exact(mW.js (by simpa using gO.bx h)).same (((((Same.refl _ _).pQ (b:=w.heap.size) oM).pQ (b:=w.heap.size) oM).pQ (b:=w.heap.size) oM).kz (b:=w.heap.size+1) oM);exact nX (b:=w.heap.size+1) (iT (b:=w.heap.size) (iT (b:=w.heap.size) (iT (b:=w.heap.size) j oM) oM) oM) oM
theorem Ig (d:ik) (v:bK) (gP:List Int) (h:Option Addr) (r:Nat) (w:bD) (C:nR S w) (f:ja S w v d) (E:lp T w h gP) (G:gP.length<=1000000) (D:d.gH.length<=1000000):
  bW bC 33 #[v, ha h gP.length r] w (tN S w (ma d gP)):=by
 unfold ma;cases g:(iW d !=0);rw[if_neg (by simpa using g)];exact Ie d v gP h r w C f E G D (by simpa using g);rw[if_pos (by simpa using g)];have z:=f;obtain⟨po,pc,co,cc,rfl,J,I,L⟩:=f;have m: ∀o q,bG w.heap.size w ((w.alloc o).alloc q):=fun o q=>((bE _ _).alloc (bA _) _).alloc oC _;go_enter func33,ntmps33;go_wp2_with fail;refine(su d _ _ (z.below (m _ _))).mono ?_;rintro e w1 ⟨rfl,j⟩;have u:=(Bx.new (w.alloc _) _ _).gD j;rw[bP] at u;obtain⟨x,H⟩:=u.cf;have y:bG w.heap.size w w1:=(m _ _).trans (j.mono oN);go_wp2;refine bQ (v:= hF #[.int .i64 0, ha bz 0 0, ha bz 0 0, .int .i64 0]) (by simp[b5,results33,go_sem,x]) rfl ?_;exact⟨_,rfl,rE _,nX (b:=w.heap.size+1) y oM⟩
theorem Ih {F:cS} {j:Nat} {P:cG} {ops:Array Oper} {rest:List Oper} {o:Oper} {a:Act} {Q:Exit->Act->bD->Prop} {w:bD} (C:o.guard=bz) (l c:cC) (t:b3) (f:o.op=Op.makeSlice t l c)
  (e:b3) (i:cY) (z:bK) (h:Nat) (H:P.underlying t=bB (.slice e)) (D:P.info? e=bB i) (I:i.zero=bB z) (G:i.size=1) (u:i.bytes=h) (J:z.cells=#[z])
  (n:Nat) (E:a.eval l= .int .i64 n) (x:a.eval c= .int .i64 n) (M:h * n<=281474976710656) (L:n<=9223372036854775807)
  (hK: ∀w',Bx w' w.heap.size (bM n z).toArray e->w.grownBy w' bz->w'.heap.size=w.heap.size+1->wpListIn F j P ops Q rest (a.put o.dst (ha (bB ⟨w.heap.size,0,bz⟩) n n)) w'):
  wpListIn F j P ops Q (o::rest) a w:=by
 refine wpListIn_plain C fun K q=>?_;have r:(i.bytes:Int) * (n:Int)<=281474976710656:=by
  have m:((i.bytes * n:Nat):Int)<=281474976710656:=by rw[u];omega
  rwa[Int.natCast_mul] at m
 have g:=run_make (P:=P) w t e i z H D I .i64 .i64 n n oM (Int.le_refl _) r oM;rw[G,J,Nat.mul_one,CO] at g;simp only[cw] at g;unfold Oper.wpIn;refine⟨by simp[Oper.about,f],?_⟩;rw[Oper.semAt_plain F _ _ (by rw[f];intro c y;cases y)];simp[execOp,f,E,x,g,cz];exact q _ _ (by simpa using hK _ (Bx.new w _ _) (bZ w _ bz) (bP _ _))
def nH (d:ik) (pre:List (Fin d.gG.length)):List ByteArray:=pre.foldl (fun ps x=>ps.set x.1 (nv d x.1 x.2)) (bM d.gG.length bI)
theorem Ii (d:ik) (f:List (Fin d.gG.length)) (x:Fin d.gG.length):nH d (f++[x])=(nH d f).set x.1 (nv d x.1 x.2):=by simp[nH]
theorem Az (d:ik) (j:List (Fin d.gG.length)):(nH d j).length=d.gG.length:=by
 unfold nH
 suffices∀(l:List (Fin d.gG.length)) (f:List ByteArray),(l.foldl (fun f g=>f.set g.1 (nv d g.1 g.2)) f).length=f.length by rw[this];simp
 intro l
 induction l with
 | nil=>intro f;rfl
 | cons g l h=>intro f;rw[cN,h];simp
theorem De {N:Nat} (c:Fin N->ByteArray) (j:Fin N): ∀(l:List (Fin N)) (ps:List ByteArray),ps.length=N->(l.foldl (fun ps x=>ps.set x.1 (c x)) ps)[j.1]?=if j∈l then bB (c j) else ps[j.1]?
 | [],ps,_=>oC
 | x::l,ps,h=>by
  rw[cN,De c j l _ (by simpa using h)]
  by_cases f:j∈l
  simp[f]
  by_cases g:j=x
  subst g;simp[f,h,j.2];have m:x.1≠j.1:=fun e=>g (Fin.ext e.symm);simp[f,g,List.getElem?_set_ne m]
theorem Ij (d:ik):nH d (cm d.gG.length)=o9 d:=by
 apply List.ext_getElem?;intro g
 by_cases f:g<d.gG.length
 have:=De (fun h=>nv d h.1 h.2) ⟨g,f⟩ (cm d.gG.length) (bM d.gG.length bI) oC;rw[if_pos (List.mem_finRange _)] at this;unfold nH o9;rw[this];simp[f];rw[cZ (by rw[Az];omega),cZ (by simp[o9];omega)]
theorem Df {i:Int} {z:Int} {l:List PW} (h: ∀x∈l,(x.data.size:Int)=z): ∀s:ByteArray,(s.size:Int)=z->((jl i l s).size:Int)=z:=by
 induction l with
 | nil=>intro s f;exact f
 | cons x l j=>intro s f;rw[jl];refine j (fun m g=>h m (by simp[g])) _ ?_;split;exact h x oC;exact f
theorem AA {d:ik} (g: ∀s∈d.gG,(s.size:Int)=d.size) (f: ∀x∈d.gH,(x.data.size:Int)=d.size): ∀s∈o9 d,(s.size:Int)=d.size:=by
 intro s h;obtain⟨i,_,rfl⟩:=cH.1 h;exact Df f _ (g _ (ck _))
theorem uG (d:ik):(o9 d).length=d.gG.length:=by simp[o9]
theorem Ik {d:ik} {o:Option Addr} {c:Nat} {l:Int} (r: ∀s∈d.gG,(s.size:Int)=d.size) (h: ∀x∈d.gH,(x.data.size:Int)=d.size) (u:d.gG.length<=2000) (y:d.size<=512) (m:d.gG.length<=cr) (j: -9223372036854775808<=l/\l<=9223372036854775807)
  {b:Nat} (q:o=bB ⟨b,0,bz⟩:=by rfl) (f:c=d.gG.length:=by rfl):mG ⟨d.size,o9 d,[],l⟩ o bz c 0:=
 ⟨.inr ⟨_,q,by rw[uG,f];exact bA _,by rw[f];exact m⟩, .inl ⟨rfl,rfl,rfl⟩,by simp only[uG];omega,oC,fun s g=>by have:=AA r h s g;omega,oC,j⟩
section
attribute [local go_sem] Oper.semAt_some
theorem Il (d:ik) (v:bK) (w:bD) {S:Nat->Prop} (M:nR S w) (av:ja S w v d) (a2:(iW d !=0)=bO) (aq:(d.left==0)=bO):
  bW bC 84 #[v] w (lq S w ⟨d.size,o9 d,[],(jt d).left⟩ 0):=by
 obtain⟨v1,v2,v3,bv⟩:=nY (by simpa using a2);have z:=pd v1;have aw:=av;obtain⟨po,pc,co,cc,rfl,aW,aP,al⟩:=av;have bs:=al.gG;have bt:=gF al;clear al aW aP;obtain⟨a6,aS,a3,aB,a4⟩:=info_parts xu;have ai: ∀o aD,bG w.heap.size w ((w.alloc o).alloc aD):=fun o aD=>((bE _ _).alloc (bA _) _).alloc oC _;have a0: ∀(h:bD) (v:bK),ja S h v d->bW bC 125 #[v] h (qE S h (jt d) b8):=fun h v f=>by have:=yH d v h f;rw[if_neg (by simpa using aq),aq] at this;exact this
 obtain⟨n,bo⟩: ∃n,9<=n:=⟨9,bA _⟩;refine(cB (n:=n)).1 ?_;have X:Fence.wide.round=none:=rfl;have aK:1<=n:=oM
 refine callsIn_of_wp_marks func84 rfl trivial ?_ X;simp only[ntmps84,b6,j1,bV,cq,cp,bY,bX,b7,b0,b4,b1];gi_wp2_with (refine⟨trivial,?_⟩;gi_at_call 43;refine(cB.2 (su d _ _ (aw.below (ai _ _)))).mono ?_);rintro e w1 ⟨rfl,x⟩;have aa:=((Bx.new w _ _).alloc _).gD x;have U:=(Bx.new (w.alloc _) _ _).gD x;rw[bP] at U;obtain⟨D,G⟩:=aa.cf;obtain⟨E,H⟩:=U.cf;have L:bG w.heap.size w w1:=(ai _ _).trans (x.mono oN);have aT:=aa.lt;have aU:=U.lt;gi_wp2_with (refine⟨trivial,?_⟩;gi_at_call 125;refine(cB.2 (a0 _ _ ((aw.below (ai _ _)).below x))).mono ?_);rintro e w2 ⟨bw,rfl,ax,ah⟩;have ab:=aa.gD ah;have ad:=U.gD ah;have aN:bG w.heap.size w w2:=L.trans (ah.mono oM);clear D G E H;have bg:=ax;obtain⟨j,q,m,r,rfl,aA,aR,aE⟩:=ax;obtain⟨D,G⟩:=ab.cf;obtain⟨E,H⟩:=ad.cf;have bi:=ab.lt;have bl:=ad.lt;have aC: ¬Gr S w1 w2 w.heap.size:=by rintro (f|f);exact absurd (M _ f) oM;omega
 have br: ¬Gr S w1 w2 (w.heap.size+1):=by rintro (f|f);exact absurd (M _ f) oM;omega
 have Y:=gF (gK v2 v3);have aY:d.gG.length<=2000:=oM
 clear v2 v3;gi_wp2_with (first
  | (refine Ih rfl (.tmp 22) (.tmp 22) 22 rfl 9 a6 _ 16 cv aS a3 aB a4 rfl d.gG.length rfl rfl oM oM ?_;intro w3 am I a5;have ac:=(ab.kz).grown I oC;have ae:=(ad.nE (b':=w.heap.size) oC).grown I oC;have au:=(nX (b:=w.heap.size) aN (bA _)).grown I oN oC;have aZ:=(aA.same ((Same.refl _ _).kz aC)).same (Same.qD I (fun b f=>by rcases f with f|f;exact iU (M _ f) oN;simp;omega) oC);clear D G E H;obtain⟨D,G⟩:=ac.cf;obtain⟨E,H⟩:=ae.cf;have bj:=ac.lt;have bm:=ae.lt)
  | (refine⟨trivial,?_⟩;gi_at_call 127;refine(H5 Fence.wide _ trivial X _ _ _ _ _).mono ?_;rintro e w' ⟨rfl,rfl⟩))
 have ak:w3.heap.size=w2.heap.size+1:=by simpa using a5
 obtain⟨W0,u⟩:=nM ((w3.alloc (hI #[ha (bB ⟨w2.heap.size,0,bz⟩) d.gG.length d.gG.length] 22)).alloc (hI #[.int .i64 (jt d).size, ha j (jt d).gG.length q, ha m (jt d).gH.length r, .int .i64 (jt d).left] 25));have a9:Bx W0 w2.heap.size (bM d.gG.length (ch .empty)).toArray 9:=by rw[<-u];simp only[b9] at am;exact(am.alloc _).alloc _
 have a':Bx W0 (w2.heap.size+1) #[ha (bB ⟨w2.heap.size,0,bz⟩) d.gG.length d.gG.length] 22:=by rw[<-u];exact(Bx.ir _ _ _ _ ak.symm).alloc _
 have a8:Bx W0 (w2.heap.size+1+1) #[.int .i64 (jt d).size, ha j (jt d).gG.length q, ha m (jt d).gH.length r, .int .i64 (jt d).left] 25:=by rw[<-u];exact Bx.ir _ _ _ _ (by simp[ak])
 have aF:=(ac.alloc (hI #[ha (bB ⟨w2.heap.size,0,bz⟩) d.gG.length d.gG.length] 22)).alloc (hI #[.int .i64 (jt d).size, ha j (jt d).gG.length q, ha m (jt d).gH.length r, .int .i64 (jt d).left] 25);have aG:=(ae.alloc (hI #[ha (bB ⟨w2.heap.size,0,bz⟩) d.gG.length d.gG.length] 22)).alloc (hI #[.int .i64 (jt d).size, ha j (jt d).gG.length q, ha m (jt d).gH.length r, .int .i64 (jt d).left] 25);rw[u] at aF aG;have aM:bG w.heap.size w W0:=by rw[<-u];exact(au.alloc oM _).alloc oN _
 have az:Same (Gr S w1 w2) w2 W0:=by
  rw[<-u];have ag:nR (Gr S w1 w2) w2:=fun b f=>by rcases f with f|f;exact iU (M _ f) oM;omega
  have aL:Same (Gr S w1 w2) w2 w3:=((Same.refl _ _).kz aC).grown I (ag.size oC) oC;exact(aL.alloc (ag.size oM) _).alloc (ag.size oN) _
 have a1:W0.heap.size=w2.heap.size+3:=by rw[<-u];simp[ak]
 have ay:nR (Gr S w1 w2) w2:=fun b f=>by rcases f with f|f;exact iU (M _ f) oM;omega
 have aX:mW (Gr S w1 w2) W0 j (jt d).gG:=aA.same az;have aQ:iV (Gr S w1 w2) W0 m (jt d).gH:=aR.same az;rw[u];have aj:=gF a1;clear u aa U ab ad ac ae am D G E H au aZ I;refine HV X aK (gf:=176) (lb:=#[hE (bB ⟨w2.heap.size+1+1,0,bz⟩)]) rfl trivial (enters_of func176 oP rfl)
  (nZ:=fun g:Fin d.gG.length=>#[cI .i64 (g.1:Int), ht (nv d g.1 g.2)]) (T:=fun b=>Gr S w1 w2 b\/W0.heap.size+2<=b) (S:=fun ba=>ba=cm d.gG.length) (N:=d.gG.length)
  (fun aH aB x=>H4 Fence.wide (n - 1) trivial X oM (w2.heap.size+1+1) (jt d) j m q r (S:=Gr S w1 w2) _ aH aE (fun g R=>⟨(Y.o.2 g R).1,(Y.o.2 g R).2.1⟩) (fun b=> .inl) (fun b f=> .inr oM) (aX.below x) (aQ.below x) (a8.gD x))
  (by rintro (f|f);exact absurd (ay _ f) oM;omega) (fun _=>rfl)
  (fun Z h=>Bx h w2.heap.size ((nH d Z).map ch).toArray 9/\Bx h (w2.heap.size+1) #[ha (bB ⟨w2.heap.size,0,bz⟩) d.gG.length d.gG.length] 22/\Bx h w.heap.size #[.int .i64 (jt d).size, ha j (jt d).gG.length q, ha m (jt d).gH.length r, .int .i64 (jt d).left] 25/\Bx h (w.heap.size+1) #[.int .i64 0, ha bz 0 0, ha bz 0 0, .int .i64 0] 25/\bG w.heap.size w h)
  (fun Z h bd bu f O z=>⟨f.1.grown O (fun e=>by have:=z _ e.symm;omega),f.2.1.grown O (fun e=>by have:=z _ e.symm;omega),f.2.2.1.grown O (fun e=>by have:=z _ e.symm;omega),f.2.2.2.1.grown O (fun e=>by have:=z _ e.symm;omega),f.2.2.2.2.grown O f.2.2.2.2.size fun k e=>by have:=z _ e;omega⟩)
  ⟨by simpa[nH] using a9,a',aF,aG,aM⟩
  (fun g=>{ tmps:=#[hF #[.int .i64 d.size, ha po d.gG.length pc, ha co d.gH.length cc, .int .i64 d.left], hE (bB ⟨w.heap.size,0,bz⟩), hE (bB ⟨w.heap.size+1,0,bz⟩), .int .i64 0, hA b8, hE (bB ⟨w2.heap.size+1,0,bz⟩), .int .i64 (g.1:Int), ht (nv d g.1 g.2), hF #[.int .i64 d.size, ha po d.gG.length pc, ha co d.gH.length cc, .int .i64 d.left], .int .i64 (iW d), hA bO,cg, hG #[hF #[.int .i64 (jt d).size, ha j (jt d).gG.length q, ha m (jt d).gH.length r, .int .i64 (jt d).left], hA b8], hF #[.int .i64 d.size, ha po d.gG.length pc, ha co d.gH.length cc, .int .i64 d.left], hG #[hF #[.int .i64 (jt d).size, ha j (jt d).gG.length q, ha m (jt d).gH.length r, .int .i64 (jt d).left], hA b8], hF #[.int .i64 (jt d).size, ha j (jt d).gG.length q, ha m (jt d).gH.length r, .int .i64 (jt d).left], hA b8, hA b8, hA bO,cg, hE (bB ⟨w.heap.size,1,bz⟩), ha j (jt d).gG.length q, .int .i64 (jt d).gG.length, ha (bB ⟨w2.heap.size,0,bz⟩) d.gG.length d.gG.length, hF #[.int .i64 (jt d).size, ha j (jt d).gG.length q, ha m (jt d).gH.length r, .int .i64 (jt d).left], .func (.func 176) #[] #[hE (bB ⟨w2.heap.size+1+1,0,bz⟩)], .int .i64 (g.1:Int), ht (nv d g.1 g.2),cg,cg,cg,cg,cg,cg,cg,cg],defers:=[] }) ?assign ?body ?done
 case assign=>intro l g h K hK;gi_wp2;exact hK
 case body=>
  rintro l Z g h ⟨y,W,V,J,L⟩ bn;have af:=W.cell 0;simp at af;have R:=g.2;have bf:=y.free g.1;have be:h.cell? ⟨w2.heap.size,g.1,bz⟩=bB (ht ((nH d Z)[g.1]'(by rw[Az];exact g.2))):=by rw[y.cell];simp[Az]
  have bk:=y.lt;gi_wp2;have aV: ∀b,(Gr S w1 w2 b\/W0.heap.size+2<=b)->b≠w2.heap.size:=by rintro b (f|f) e;have:=ay _ f;omega;have:=aj.o;omega
  refine⟨ca h _ _ _ (by simp;have:=aj.o;omega),ca h _ _ _ (by simp;have:=aj.o;omega),iL.set h _ fun f=>aV _ f rfl,?_,W.jc oC _,V.jc oN _,J.jc oN _,iT (b:=w2.heap.size) L oM⟩;have:=y.set g.1 (ch (nv d g.1 g.2));simpa[Ii,List.map_set] using this
 case done=>
  rintro xs h rfl ⟨y,W,V,J,L⟩ hK;rw[Ij] at y;have af:=W.cell 0;obtain⟨D,G⟩:=V.cf;obtain⟨E,H⟩:=J.cf;have aT:=V.lt;have aU:=J.lt;simp at af;have aO:mG ⟨d.size,o9 d,[],(jt d).left⟩ (bB ⟨w2.heap.size,0,bz⟩) bz d.gG.length 0:=Ik Y.o.1 (fun g R=>(Y.o.2 g R).2.2) aY z.2.2.2 (by simp[cr];omega) aE.left;gi_wp2;have ar:w2.heap.size≠w.heap.size:=oM
  have aJ:w2.heap.size≠w.heap.size+1:=oM
  have ao:=((y.jc (a:=⟨w.heap.size,1,bz⟩) ar (ha (bB ⟨w2.heap.size,0,bz⟩) d.gG.length d.gG.length)).jc (a:=⟨w.heap.size,2,bz⟩) ar (ha bz 0 0)).nE (v0:= .int .i64 (jt d).size) (v1:= ha (bB ⟨w2.heap.size,0,bz⟩) d.gG.length d.gG.length) (v2:= ha bz 0 0) (v3:= .int .i64 (jt d).left) aJ;have ap:=(((J.jc (a:=⟨w.heap.size,1,bz⟩) oC (ha (bB ⟨w2.heap.size,0,bz⟩) d.gG.length d.gG.length)).jc (a:=⟨w.heap.size,2,bz⟩) oC (ha bz 0 0))).kz (v0:= .int .i64 (jt d).size) (v1:= ha (bB ⟨w2.heap.size,0,bz⟩) d.gG.length d.gG.length) (v2:= ha bz 0 0) (v3:= .int .i64 (jt d).left);have an:=nX (b:=w.heap.size+1) (v0:= .int .i64 (jt d).size) (v1:= ha (bB ⟨w2.heap.size,0,bz⟩) d.gG.length d.gG.length) (v2:= ha bz 0 0) (v3:= .int .i64 (jt d).left) (iT (b:=w.heap.size) (k:=2) (v:= ha bz 0 0) (iT (b:=w.heap.size) (k:=1) (v:= ha (bB ⟨w2.heap.size,0,bz⟩) d.gG.length d.gG.length) L oM) oM) oM;have C:=(((((((bN h ⟨w.heap.size,1,bz⟩ (ha (bB ⟨w2.heap.size,0,bz⟩) d.gG.length d.gG.length)).trans (bN _ ⟨w.heap.size,2,bz⟩ (ha bz 0 0))).trans (bN _ ⟨w.heap.size+1,0,bz⟩ (.int .i64 (jt d).size))).trans (bN _ ⟨w.heap.size+1,1,bz⟩ (ha (bB ⟨w2.heap.size,0,bz⟩) d.gG.length d.gG.length))).trans (bN _ ⟨w.heap.size+1,2,bz⟩ (ha bz 0 0))).trans (bN _ ⟨w.heap.size+1,3,bz⟩ (.int .i64 (jt d).left)))).same _ _ hK rfl;have bp:W0.heap.size<h.heap.size:=(bL.1 hK).1
  revert ao ap an C
  generalize bh:((((((h.setCell _ _).setCell _ _).setCell _ _).setCell _ _).setCell _ _).setCell _ _)=Wf;intro ao ap an C;have bq:W0.heap.size<Wf.heap.size:=(bL.1 C).1;refine⟨oC, .inl ⟨_,_,rfl,cQ C,?_⟩⟩;have bc:=rG ap (bT _ W0.heap.size (.deferred bz)) (fun a7 e=>by cases e;exact⟨_,C,rfl⟩);have bb:=rG ao (bT _ W0.heap.size (.deferred bz)) (fun a7 e=>by cases e;exact⟨_,C,rfl⟩);have aI:=bc.cell;refine⟨hG #[hF #[.int .i64 (jt d).size, ha (bB ⟨w2.heap.size,0,bz⟩) d.gG.length d.gG.length, ha bz 0 0, .int .i64 (jt d).left], .int .i64 0],?_,?_⟩;simp[b5,f84,go_sem,aI];refine⟨_,rfl,⟨bB ⟨w2.heap.size,0,bz⟩,d.gG.length,bz,0,by simp[o9,jt],?_,by intro i f;simp at f,aO⟩,an.trans (belowK_b (w:=w) (bA _) Wf W0.heap.size _ _ oM C rfl rfl)⟩;refine mW.mono (S:=(· =w2.heap.size)) (.js (by simpa using gO.bx bb)) (fun b f=>Gr.new oM oN)
end
variable {P:cG}{md:Region.Mode}{ops:Array Oper}{Q:Exit->Act->bD->Prop}{listed:Array Bool}{a:Act}{w:bD}
theorem iG{f:Nat}{o:Oper} (i:Nat) (h: ∀K:Act->bD->Prop,(∀a w,wpAny P md ops Q f (listed.setIfInBounds i b8) a w->K a w)->if Region.wanted o (yielded ops a.tmps)=b8 then Oper.wp P o a w K Q else K (a.put o.dst cg) w) (j:Region.ready md ops listed=[i]:=by kernel_rfl) (g:ops[i]? =bB o:=by rfl):wpAny P md ops Q (f+1) listed a w:=
 wpAny_ready j oC (AllReady.cons g h AllReady.nil)
theorem kS{f:Nat} (h:Q .normal a w) (g:Region.ready md ops listed=[]:=by kernel_rfl):wpAny P md ops Q f listed a w:=
 wpAny_done g h f
end Go.Proofs.YtlefmmhlpgmbjaaGreat
