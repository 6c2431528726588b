import Derived.Test.YtlefmmhlpgmbjaaGreatR08
import Derived.Shelf.SlSortCmp.NoneTotal
open ByteArray renaming empty->gx
open Bool renaming true->gy,false->hd
open Option renaming some->gz,none->gB,map_some->hz
open Go.Proofs.Tryz renaming prog->gA,results36->hi,results68->hW,underlying52->h4
open Go renaming bodyPost_ret->hf,wpQuiet_nil->hh,results->hn,World->hq,Calls->hD,Value->h3,bodyPost_end->kk
open List renaming take_succ_eq_append_getElem->hg,take_of_length_le->ho,drop_eq_getElem_cons->hv,take_succ_cons->hy,take_zero->hL,eq_nil_of_length_eq_zero->hQ,length_nil->hR,foldl_cons->hT,getElem?_eq_none->hU,foldl_append->h5,getElem_mem->h6,foldl_nil->h8,getElem?_eq_getElem->iS,drop_of_length_le->jj,mem_cons_of_mem->ka,getElem?_take->kc,ext_getElem?->kl
open Go.Act renaming put->hj
open Nat renaming zero_le->hl,le_refl->hY
open Array renaming getElem?_eq_getElem->hr,getElem?_toList->hP,getElem?_eq_some_iff->h7,getElem?_modify->j8
open Go.IntWalk renaming wrap64_in->hJ
open Go.Sort renaming size_flatK->hS,size_putRowK->ke
open Option.some renaming injEq->hV
open Go.World renaming grownBy_alloc->hX,block_lt_of_cell?->im,ownsRow_nil->kb
open Int renaming tmod_eq_emod_of_nonneg->ih
open Go.Proofs.Tryz
set_option maxRecDepth 100000
set_option maxHeartbeats 4000000
open Go.Value renaming int->gE,slice->hA,string->hE,bool->hF,agg->hG,tuple->hI
open Go.IntKind renaming i64->ha
open Go.Ending renaming returned->ht
open Go.Obj renaming cells->hM
namespace Go.Proofs.YtlefmmhlpgmbjaaGreat
open Go.RowKit
variable {w w':hq}{o:Option Addr}{α:Type}{k:Nat}{l:List Kv}{key:ByteArray}
structure ur (w:hq) (a:kP) (co po qB qo:Option Addr) (cc pc dc qc:Nat):Prop where
 tM:jk co a.nS.length cc
 vE:jk po a.k7.length pc
 FK:jk qB a.lA.length dc
 FL:jk qo a.gP.length qc
 nS:oI w co a.nS
 k7:jS w po a.k7
 lA:mW (· <w.heap.size) w qB a.lA
 gP:lp (· <w.heap.size) w qo a.gP
 kind: -9223372036854775808<=a.kind/\a.kind<=9223372036854775807
 left: -9223372036854775808<=a.left/\a.left<=9223372036854775807
 ints: ∀x∈a.gP,-9223372036854775808<=x/\x<=9223372036854775807
 sizes: ∀c∈a.nS,c.old.size<=140737488355328/\c.new.size<=140737488355328
abbrev jG (a:kP) (co po qB qo:Option Addr) (cc pc dc qc:Nat):Array h3:=#[gE ha a.kind, hA co a.nS.length cc, hA po a.k7.length pc, hA qB a.lA.length dc, gE ha a.left, hA qo a.gP.length qc]
def pJ (w:hq) (o:Option Addr) (l:List kP):Prop:=
 ∀i (h:i<l.length),∃b off co po qB qo cc pc dc qc,o=gz ⟨b,off,gB⟩/\w.cell? ⟨b,off+i * 6,gB⟩=gz (gE ha l[i].kind)/\w.cell? ⟨b,off+i * 6+1,gB⟩=gz (hA co l[i].nS.length cc)/\
  w.cell? ⟨b,off+i * 6+2,gB⟩=gz (hA po l[i].k7.length pc)/\w.cell? ⟨b,off+i * 6+3,gB⟩=gz (hA qB l[i].lA.length dc)/\w.cell? ⟨b,off+i * 6+4,gB⟩=gz (gE ha l[i].left)/\
  w.cell? ⟨b,off+i * 6+5,gB⟩=gz (hA qo l[i].gP.length qc)/\ur w l[i] co po qB qo cc pc dc qc
theorem lp.lift {l:List Int} (h:lp (· <w.heap.size) w o l) (a:Below w.heap.size w w'):lp (· <w'.heap.size) w' o l:=
 .js ((h.row.below a).mono fun _ b=>iU b a.size)
theorem ur.below {a:kP} {f po j m:Option Addr} {e pc i qc:Nat} (h:ur w a f po j m e pc i qc) (b:Below w.heap.size w w'):ur w' a f po j m e pc i qc:=
 ⟨h.tM,h.vE,h.FK,h.FL,h.nS.below b,h.k7.below b,(h.lA.below b).mono fun _ n=>iU n b.size,lp.lift h.gP b,h.kind,h.left,h.ints,h.sizes⟩
theorem pJ.below {l:List kP} (h:pJ w o l) (a:Below w.heap.size w w'):pJ w' o l:=by
 intro z y;obtain⟨e,C,r,F,t,H,q,E,s,G,u,f,i,j,m,n,p,D⟩:=h z y;have b:e<w.heap.size:=im w _ f;exact⟨e,C,r,F,t,H,q,E,s,G,u,(a.cell b).trans f,(a.cell b).trans i,(a.cell b).trans j,(a.cell b).trans m,(a.cell b).trans n,(a.cell b).trans p,D.below a⟩
def xm (c:ju):Bool:= !(decide ((60:Int)<(c.key.size:Int))||decide ((200:Int)<(c.old.size:Int)+(c.new.size:Int)))
def uu (p:Kv):Bool:= !(decide ((60:Int)<(p.1.size:Int))||decide ((100:Int)<(p.2.size:Int)))
def uw (a:kP):Bool:=decide ((a.nS.length:Int)<=12)&&(decide ((a.k7.length:Int)<=12)&&(decide ((a.lA.length:Int)<=12)&&decide ((a.gP.length:Int)<=40)))
def lF (a:kP):Bool:=a.nS.all xm&&(a.k7.all uu&&uw a)
def xn (gG:Int) (acts:List kP):Bool:= !(decide (40<gG))&&(!(decide ((8:Int)<(acts.length:Int)))&&acts.all lF)
theorem B3 {p:α->Bool} {l:List α} (h:k<l.length) (a:p l[k]=gy):(l.drop k).all p=(l.drop (k+1)).all p:=by
 rw[hv h,List.all_cons,a,Bool.true_and]
theorem B4 {p:α->Bool} {l:List α} (h:k<l.length) (a:p l[k]=hd):(l.drop k).all p=false:=by
 rw[hv h,List.all_cons,a,Bool.false_and]
theorem B6 {p:α->Bool} {l:List α} (h:l.length<=k):(l.drop k).all p=true:=by
 rw[jj h];rfl
theorem Mi (a:kP) (G po I N:Option Addr) (F pc H M:Nat) (w:hq) (J:ur w a G po I N F pc H M):
  hD gA 34 #[hG (jG a G po I N F pc H M)] w fun e w'=>e= ht (hF (lF a))/\Below w.heap.size w w':=by
 obtain⟨Z,au⟩:=nM w.heap.size;obtain⟨j,f⟩:=nM (lF a);rw[f];unfold lF at f;have h:=gF f;clear f;have av:=sX J.tM;have ax:=sX J.vE;have aw:=sX J.FK;have ay:=sX J.FL;have ah:=J.nS;have aj:=J.k7;have ak:=J.sizes;obtain⟨q,b,ps,m,r,p⟩:=a;simp only at av ax aw ay ah aj ak h;clear J;have C:Bx (w.alloc (hM (jG ⟨q,b,ps,m,r,p⟩ G po I N F pc H M) 54)) Z (jG ⟨q,b,ps,m,r,p⟩ G po I N F pc H M) 54:=by subst au;exact Bx.new w _ _
 have ag:Below w.heap.size w (w.alloc (hM (jG ⟨q,b,ps,m,r,p⟩ G po I N F pc H M) 54)):=Below.one w _;go_enter func34,ntmps34;go_wp2;generalize (w.alloc (hM (jG ⟨q,b,ps,m,r,p⟩ G po I N F pc H M) 54))=W0 at *
 go_loopw [10] (fun R wr=> ∃(k:Nat),k<=b.length/\R= gE ha k/\Hid (((b.drop k).all xm&&(ps.all uu&&uw ⟨q,b,ps,m,r,p⟩))=j)/\Below w.heap.size w wr/\Bx wr Z (jG ⟨q,b,ps,m,r,p⟩ G po I N F pc H M) 54) (fun R _=>b.length - (intOf R).toNat)
 case atStart=>exact⟨0,hl _,rfl,h,ag,C⟩
 case round=>
  clear ag h C;obtain⟨k,ai,rfl,t,i,C⟩:=hrel
  by_cases E:k<b.length
  .
   obtain⟨ab,aB,rfl,y,X,Y,al,am,an⟩:=ah.cell E;have S:=(i.cell y).trans X;have ac:=(i.cell y).trans Y;have ap:=(i.cell y).trans al;have aq:=(i.cell y).trans am;have ar:=(i.cell y).trans an;clear X Y al am an;obtain⟨x,z⟩:=nM (b[k]);have az:=ak x (by rw[<-z];exact h6 E);have U:xm x=hd->Hid (j=hd):=fun O=>gF (by rw[<-t.o,B4 E (by rw[z];exact O)];rfl);have V:xm x=gy->Hid (((b.drop (k+1)).all xm&&(ps.all uu&&uw ⟨q,b,ps,m,r,p⟩))=j):=fun O=>gF (by rw[<-B3 E (by rw[z];exact O)];exact t.o);clear t;have s:=gF U;have D:=gF V;clear U V;rw[z] at S ac ap aq ar;unfold xm at s D;have P:=Below.one wr (hM #[hE x.key, hF x.lz, hF x.kp, hE x.old, hE x.new] 71);have T:=iq i P;have ae:=C.gD P;have aA:ab<wr.heap.size:=iU y i.size;have aC:wrap64 ((x.old.size:Int)+(x.new.size:Int))=(x.old.size:Int)+(x.new.size:Int):=hJ _ oM;clear z az P;cases n:decide ((60:Int)<(x.key.size:Int));focus
    cases u:decide ((200:Int)<(x.old.size:Int)+(x.new.size:Int));.
     have aa:=D.o (by rw[n,u];rfl);clear s D;go_wp2;go_roundw;case rel=>exact⟨k+1,oM,oQ,aa,T,ae⟩
     case measure=>simp[intOf];omega
    focus have f:=(s.o (by rw[n,u];rfl)).o
   rotate_left;focus have f:=(s.o (by rw[n];rfl)).o
   all_goals clear s D;go_wp2;go_ret;exact⟨by rw[f];rfl,T⟩
  have h:Hid ((ps.all uu&&uw ⟨q,b,ps,m,r,p⟩)=j):=gF (by rw[<-t.o,B6 oM];rfl);obtain⟨S,ao⟩:=C.c2;clear t;go_wp2;clear S ao
  go_loopw [32] (fun R wr=> ∃(k:Nat),k<=ps.length/\R= gE ha k/\Hid (((ps.drop k).all uu&&uw ⟨q,b,ps,m,r,p⟩)=j)/\Below w.heap.size w wr/\Bx wr Z (jG ⟨q,b,ps,m,r,p⟩ G po I N F pc H M) 54) (fun R _=>ps.length - (intOf R).toNat)
  case atStart=>exact⟨0,hl _,rfl,h,i,C⟩
  case round=>
   clear i h C E ai;obtain⟨k,ai,rfl,t,i,C⟩:=hrel
   by_cases E:k<ps.length
   .
    obtain⟨ab,aB,rfl,y,X,Y⟩:=aj.cell E;have S:=(i.cell y).trans X;have ac:=(i.cell y).trans Y;clear X Y;obtain⟨x,z⟩:=nM (ps[k]);have U:uu x=hd->Hid (j=hd):=fun O=>gF (by rw[<-t.o,B4 E (by rw[z];exact O)];rfl);have V:uu x=gy->Hid (((ps.drop (k+1)).all uu&&uw ⟨q,b,ps,m,r,p⟩)=j):=fun O=>gF (by rw[<-B3 E (by rw[z];exact O)];exact t.o);clear t;have s:=gF U;have D:=gF V;clear U V;rw[z] at S ac;unfold uu at s D;have P:=Below.one wr (hM #[hE x.1, hE x.2] 77);have T:=iq i P;have ae:=C.gD P;have aA:ab<wr.heap.size:=iU y i.size;clear z P;cases n:decide ((60:Int)<(x.1.size:Int));focus
     cases u:decide ((100:Int)<(x.2.size:Int));.
      have aa:=D.o (by rw[n,u];rfl);clear s D;go_wp2;go_roundw;case rel=>exact⟨k+1,oM,oQ,aa,T,ae⟩
      case measure=>simp[intOf];omega
     focus have f:=(s.o (by rw[n,u];rfl)).o
    rotate_left;focus have f:=(s.o (by rw[n];rfl)).o
    all_goals clear s D;go_wp2;go_ret;exact⟨by rw[f];rfl,T⟩
   have h:Hid (uw ⟨q,b,ps,m,r,p⟩=j):=gF (by rw[<-t.o,B6 oM];rfl);obtain⟨S,ao⟩:=C.c2;clear t;unfold uw at h;simp only at h;cases n:decide ((b.length:Int)<=12);focus have f:j=false:=by rw[<-h.o,n];rfl
   rotate_left;cases u:decide ((ps.length:Int)<=12);focus have f:j=false:=by rw[<-h.o,n,u];rfl
   rotate_left;cases ad:decide ((m.length:Int)<=12);focus have f:j=false:=by rw[<-h.o,n,u,ad];rfl
   rotate_left;cases af:decide ((p.length:Int)<=40);focus have f:j=false:=by rw[<-h.o,n,u,ad,af];rfl
   rotate_left;have f:j=true:=by rw[<-h.o,n,u,ad,af];rfl
   all_goals clear h;go_wp2;go_ret;exact⟨by rw[f];rfl,i⟩
theorem Mj (i gI gJ:Int) (a:List kP) (o:Option Addr) (c:Nat) (w:hq) (ap:pJ w o a) (ad:jk o a.length c):
  hD gA 27 #[hG #[gE ha i, gE ha gI, gE ha gJ, hA o a.length c]] w fun e w'=>e= ht (hF (xn i a))/\Below w.heap.size w w':=by
 have az:=sX ad;clear ad;obtain⟨aw,ax⟩:=nM w.heap.size;obtain⟨j,h⟩:=nM (xn i a);rw[h];unfold xn at h;have n:=gF h;clear h;go_enter func27,ntmps27;cases s:decide (40<i);.
  cases Y:decide ((8:Int)<(a.length:Int));.
   have G:Hid (a.all lF=j):=gF (by rw[<-n.o,s,Y];simp);clear n;have Z:Below w.heap.size w (w.alloc (hM #[gE ha i, gE ha gI, gE ha gJ, hA o a.length c] 49)):=Below.one w _;go_wp2;generalize (w.alloc (hM #[gE ha i, gE ha gI, gE ha gJ, hA o a.length c] 49))=W0 at *
   go_loopw [17] (fun E wr=> ∃(k:Nat),k<=a.length/\E= gE ha k/\Hid ((a.drop k).all lF=j)/\Below w.heap.size w wr) (fun E _=>a.length - (intOf E).toNat)
   case atStart=>exact⟨0,hl _,rfl,G,Z⟩
   case round=>
    clear Z G;obtain⟨k,ay,rfl,m,b⟩:=hrel
    by_cases C:k<a.length
    .
     obtain⟨J,aA,U,al,X,an,T,ak,V,am,rfl,F,ae,af,ag,ah,ai,aj⟩:=ap k C;have f:J<w.heap.size:=im w _ F;have M:=(b.cell f).trans F;have N:=(b.cell f).trans ae;have O:=(b.cell f).trans af;have P:=(b.cell f).trans ag;have R:=(b.cell f).trans ah;have S:=(b.cell f).trans ai;have D:=aj.below b;clear F ae af ag ah ai aj;obtain⟨x,p⟩:=nM (a[k]);have ab:lF x=hd->Hid (j=hd):=fun t=>gF (by rw[<-m.o];exact B4 C (by rw[p];exact t));have ac:lF x=gy->Hid ((a.drop (k+1)).all lF=j):=fun t=>gF (by rw[<-B3 C (by rw[p];exact t)];exact m.o);clear m;have q:=gF ab;have r:=gF ac;clear ab ac;rw[p] at M N O P R S D;have av:J<wr.heap.size:=iU f b.size;have u:=Below.one wr (hM (jG x U al X an T ak V am) 54);have aq:=iq b u;have z:=Mi x U al X an T ak V am _ (D.below u);obtain⟨ao,y⟩:=nM (lF x);rw[y] at z;have I:=gF z;have H:=gF y;clear z p D u y;go_wp2_with fail;refine I.o.mono ?_;rintro e aB ⟨rfl,au⟩;have aa:=iq aq au;clear I M N O P R S av;cases ao with
     | true=>
      have Q:=r.o H.o;clear q r;go_wp2;go_roundw;case rel=>exact⟨k+1,oM,oQ,Q,aa⟩
      case measure=>simp[intOf];omega
     | false=>have h:=(q.o H.o).o;clear q r;go_wp2;go_ret;exact⟨by rw[h];rfl,aa⟩
    have ar:j=true:=by rw[<-m.o];exact B6 oM
    clear m;go_wp2;go_ret;exact⟨by rw[ar];rfl,b⟩
  go_wp2;go_ret;exact⟨by rw[<-n.o,s,Y];rfl,Below.one w _⟩
 go_wp2;go_ret;exact⟨by rw[<-n.o,s];rfl,Below.one w _⟩
theorem Mk (h:k<l.length) (e:l[k].1=key):ky (l.drop k) key=(l[k].2,gy):=by
 unfold ky;rw[hv h,List.find?_cons_of_pos (by simpa using e)]
theorem Ml (h:k<l.length) (e:l[k].1≠key):ky (l.drop k) key=ky (l.drop (k+1)) key:=by
 unfold ky;rw[hv h,List.find?_cons_of_neg (by simpa using e)]
theorem Mm (l:List Kv) (o:Option Addr) (c:Nat) (key:ByteArray) (w:hq) (I:jS w o l) (y:jk o l.length c):
  hD gA 39 #[hA o l.length c, hE key] w fun e w'=>e= ht (hI #[hE (ky l key).1, hF (ky l key).2])/\Below w.heap.size w w':=by
 have M:=sX y;clear y;obtain⟨i,m⟩:=nM (ky l key);rw[m];have r:=gF m;clear m;go_enter func39,ntmps39;go_wp2
 go_loopw [10] (fun q wr=> ∃(k:Nat),k<=l.length/\q= gE ha k/\Hid (ky (l.drop k) key=i)/\Below w.heap.size w wr) (fun q _=>l.length - (intOf q).toNat)
 case atStart=>exact⟨0,hl _,rfl,r,Below.refl _ _⟩
 case round=>
  clear r;obtain⟨k,J,rfl,b,a⟩:=hrel
  by_cases p:k<l.length
  .
   obtain⟨E,O,rfl,n,C,D⟩:=I.cell p;have F:=(a.cell n).trans C;have G:=(a.cell n).trans D;clear C D;have s:l[k].1=key->Hid (i=(l[k].2,gy)):=fun e=>gF (by rw[<-b.o,Mk p e]);have t:l[k].1≠key->Hid (ky (l.drop (k+1)) key=i):=fun e=>gF (by rw[<-Ml p e,b.o]);have f:=gF s;have h:=gF t;clear s t b;obtain⟨x,z⟩:=nM (l[k]);rw[z] at F G f h;have u:=iq a (Below.one wr (hM #[hE x.1, hE x.2] 77));have N:E<wr.heap.size:=iU n a.size;clear z;cases j:(x.1.toList==key.toList);.
    have Q:=h.o (by intro e;rw[e] at j;simp at j);clear f h;go_wp2;go_roundw;case rel=>exact⟨k+1,oM,oQ,Q,u⟩
    case measure=>simp[intOf];omega
   have Q:=(f.o (oB (by simpa using j))).o;clear f h;go_wp2;refine hf (v:= hI #[hE x.2, hF gy]) (by simp[hn,results39,go_sem]) rfl ?_;exact⟨by rw[Q],u⟩
  have H:i=(gx,hd):=by rw[<-b.o,jj oM];rfl
  clear b;go_wp2;refine hf (v:= hI #[hE gx, hF hd]) (by simp[hn,results39,go_sem];rfl) rfl ?_;exact⟨by rw[H],a⟩
def oJ (x:Ix) (n:Int):Ix:=if x.gL.left= -1/\0<=n then { x with gL:={ x.gL with left:=n.tmod 40 } } else x
theorem kG.left {w:hq} {x:Ix} {po f j:Option Addr} {pc e i:Nat} (h:kG w (hG (ib x.gL po f pc e x.gI x.gJ x.gZ x.gN j x.free.length i)) x) (y:Int) (u: -9223372036854775808<=y/\y<=9223372036854775807):
  kG w (hG (ib { x.gL with left:=y } po f pc e x.gI x.gJ x.gZ x.gN j x.free.length i)) { x with gL:={ x.gL with left:=y } }:=by
 obtain⟨C,z,n,m,E,D,b,r,p,q⟩:=h;simp only[Value.agg.injEq,Array.mk.injEq,List.cons.injEq,Value.slice.injEq,and_true,true_and] at b;obtain⟨⟨rfl,rfl⟩,⟨rfl,rfl⟩,rfl,rfl⟩:=b;refine⟨po,pc,f,e,j,i,rfl,?_,p,q⟩;obtain⟨C,z,n,m,b,s,t,a⟩:=r;simp only[Value.agg.injEq,Array.mk.injEq,List.cons.injEq,Value.slice.injEq,and_true,true_and] at b;obtain⟨⟨rfl,rfl⟩,rfl,rfl⟩:=b;exact⟨po,pc,f,e,rfl,s,t,⟨a.vE,a.tM,a.gG,a.gH,a.strs,a.rC,u⟩⟩
theorem FM (x:Ix) (v:h3) (n:Int) (w:hq) (ag:kG w v x):
  hD gA 37 #[v, gE ha n] w fun e w'=> ∃u,e= ht u/\kG w' u (oJ x n)/\Below w.heap.size w w':=by
 obtain⟨O,s⟩:=nM (oJ x n);rw[s];have ah:=ag;obtain⟨r,q,i,h,p,j,rfl,-,-,-⟩:=ag;obtain⟨f,R⟩:=nM w.heap.size;obtain⟨W0,C⟩:=nM ((w.alloc (hM (ib x.gL r i q h x.gI x.gJ x.gZ x.gN p x.free.length j) 33)).alloc (hM jW 33));have E:Bx W0 f (ib x.gL r i q h x.gI x.gJ x.gZ x.gN p x.free.length j) 33:=by subst C R;exact(Bx.new w _ _).alloc _
 have t:Bx W0 (f+1) jW 33:=by subst C R;exact Bx.ir _ _ _ _ oC
 have z:Below w.heap.size w W0:=by subst C;exact(Below.one w _).alloc oC _
 have I:=ah.below z;obtain⟨ai,au,ap⟩:=E.c3;obtain⟨aj,av,aq⟩:=t.c3;unfold ib at ai C;unfold jW at aj C;clear ah;cases Y:(x.gL.left== -1);focus have H:Hid (O=x):=gF (by rw[<-s];unfold oJ;rw[if_neg fun P=>by simp[P.1] at Y])
 rotate_left;cases Z:decide (0<=n);focus have H:Hid (O=x):=gF (by rw[<-s];unfold oJ;rw[if_neg fun P=>by simp[P.2] at Z])
 rotate_left;have ae:x.gL.left= -1:=by simpa using Y
 have S:=of_decide_eq_true Z;have an:n.tmod 40=n % 40:=ih S;have am:0<=n % 40:=Int.emod_nonneg _ oF;have al:n % 40<40:=Int.emod_lt_of_pos _ oF;obtain⟨m,af⟩:=nM (n.tmod 40);have H:Hid (O={ x with gL:={ x.gL with left:=m } }):=gF (by rw[<-s];unfold oJ;rw[if_pos ⟨ae,S⟩,af]);have ac:=I.left m (by rw[<-af];omega);have ar:wrap64 m=m:=hJ _ oM;obtain⟨We,D⟩:=nM (W0.setCell ⟨f,3,gB⟩ (gE ha m));have ao:Bx We f (ib { x.gL with left:=m } r i q h x.gI x.gJ x.gZ x.gN p x.free.length j) 33:=by subst D;have:=E.set 3 (gE ha m);simpa using this
 have T:Only f W0 We:=by subst D;exact Only.one
 have U:=t.only T oM;have ad:=ac.only E (kZ _ _ _ _ _ _ _ _ _ _ _ _ _ _ _) oF T;have ab:Below w.heap.size w We:=by subst D;exact iT (b:=f) z oM
 obtain⟨Wf,a⟩:=nM (jr We (f+1) (gE ha x.gL.size) (hA r x.gL.gG.length q) (hA i x.gL.gH.length h) (gE ha m) (gE ha x.gI) (gE ha x.gJ) (gE ha x.gZ) (gE ha x.gN) (hA p x.free.length j));have V:Bx Wf (f+1) (ib { x.gL with left:=m } r i q h x.gI x.gJ x.gZ x.gN p x.free.length j) 33:=by subst a;exact U.kh
 have F:Below w.heap.size w Wf:=by subst a;exact mV ab oM
 have G:=ad.only U (kZ _ _ _ _ _ _ _ _ _ _ _ _ _ _ _) oF (w':=Wf) (by subst a;exact Only.nine);have M:=gF (gK D a);have J:=gF F;have N:=gF G;clear a F G I ac ad z ab E t ao U T D s an am al ae S;focus go_enter func37,ntmps37;go_wp2;obtain⟨ak,aa⟩:=M.o;unfold jr lj at aa;rw[ak,aa];have y:=V.cell;unfold ib at y;refine hf (v:= hG (ib { x.gL with left:=m } r i q h x.gI x.gJ x.gZ x.gN p x.free.length j)) (by simp[hn,results37,go_sem,y,ib]) rfl ?_;rw[H.o];exact⟨_,rfl,N.o,by have:=J.o;rwa[R] at this⟩
 all_goals
  clear s;obtain⟨Wf,a⟩:=nM (jr W0 (f+1) (gE ha x.gL.size) (hA r x.gL.gG.length q) (hA i x.gL.gH.length h) (gE ha x.gL.left) (gE ha x.gI) (gE ha x.gJ) (gE ha x.gZ) (gE ha x.gN) (hA p x.free.length j));have V:Bx Wf (f+1) (ib x.gL r i q h x.gI x.gJ x.gZ x.gN p x.free.length j) 33:=by subst a;exact t.kh
  have F:Below w.heap.size w Wf:=by subst a;exact mV z oM
  have G:kG Wf (hG (ib x.gL r i q h x.gI x.gJ x.gZ x.gN p x.free.length j)) x:=by subst a;exact I.only t (kZ _ _ _ _ _ _ _ _ _ _ _ _ _ _ _) oF Only.nine
  have M:=gF a;have J:=gF F;have N:=gF G;clear a F G I z E t;go_enter func37,ntmps37;go_wp2;have X:=M.o;unfold jr lj at X;rw[X];have y:=V.cell;unfold ib at y;refine hf (v:= hG (ib x.gL r i q h x.gI x.gJ x.gZ x.gN p x.free.length j)) (by simp[hn,results37,go_sem,y,ib]) rfl ?_;rw[H.o];exact⟨_,rfl,N.o,J.o⟩
open Go.RowKit Go.Shelf Go.Lib
theorem Mn (w:hq):(isAgg 71).run gA w= .ok gy w:=isAgg71 w
theorem Mo (w:hq):(Go.sizeOf 71).run gA w= .ok 5 w:=sizeOf71 w
instance:Inhabited ju:=⟨⟨gx,hd,gx,hd,gx⟩⟩
variable {w A A':hq}{v:h3}
theorem Mq {d:ik} (_:iF w v d) (q:PW): ∃D e,gR d (j0 [q])=(D,e):=⟨_,_,rfl⟩
theorem zR (x:Ix) (v:h3) (l:List ju) (lo:Option Addr) (lc:Nat) (w:hq) (eb:kG w v x) (d1:jk lo l.length lc) (dW:l.length<=1000) (fe:oI w lo l) (e0:x.gL.gH.length<=900000):
  hD gA 36 #[v, hA lo l.length lc] w (oV w (lN x l)):=by
 have fy:=eb;have fx:=eb.v;obtain⟨ag,af,ac,ab,fo,fc,rfl,eJ,e6,dR⟩:=eb;have e4:=dR.at;obtain⟨gd,dN⟩:=nM (oV w (lN x l));rw[dN];have a4:=gF dN;obtain⟨h,c8⟩:=nM w.heap.size;obtain⟨W0,cG⟩:=nM ((w.alloc (hM (ib x.gL ag ac af ab x.gI x.gJ x.gZ x.gN fo x.free.length fc) 33)).alloc (hM jW 33));have dB:Below w.heap.size w W0:=by subst cG;exact(Below.one w _).alloc oC _
 have a':Bx W0 h (ib x.gL ag ac af ab x.gI x.gJ x.gZ x.gN fo x.free.length fc) 33:=by subst cG c8;exact(Bx.new w _ _).alloc _
 have G:Bx W0 (h+1) jW 33:=by subst cG c8;exact Bx.ir _ _ _ _ oC
 have fq:=Be x _ _ (fx.below dB);have ey:=gF fq;obtain⟨aw,a9⟩:=a'.c2;unfold ib at aw cG;have bj:=gF (gK fy (gK eJ (gK e6 (gK e4 dR))));have bF:=gF (gK d1 (gK fe e0));have ap:=gF (gK a' (gK G (gK dB c8)));obtain⟨n,d3⟩:=nM l.length;have a5:=gF d3;have gj:n<=lc:=by rcases d1 with⟨_,e,_⟩|⟨_,_,e,_⟩<;>omega
 rw[d3] at dW |-;clear fy dR fx eJ e6 e4 d1 fe e0 fq dN a' G dB d3;go_enter func36,ntmps36;go_wp2_with fail;refine ey.o.mono ?_;rintro i di ⟨c',df⟩;clear cG aw a9 ey;have a':=ap.o.1.gD c';have G:=ap.o.2.1.gD c';have ah:=iq ap.o.2.2.1 c';cases bw:mz x with
 | none=>
  rw[bw] at df;obtain⟨gw,rfl⟩:=df;have X:Hid (lN x l=(iY,1)):=gF (BG bw);clear bw a';obtain⟨Wf,f⟩:=nM (jr di (h+1) (gE ha 0) (hA gB 0 0) (hA gB 0 0) (gE ha 0) (gE ha 0) (gE ha 0) (gE ha 0) (gE ha 0) (hA gB 0 0));have ay:=ap.o.2.2.2;have P:Bx Wf (h+1) jW 33:=by subst f;exact G.kh
  have q:Below w.heap.size w Wf:=by subst f;exact mV ah oM
  have ar:=gF f;have an:=gF q;clear q f ay;obtain⟨aw,a9,cu⟩:=G.c3;go_wp2;have V:=ar.o;unfold jr lj at V;rw[V];have J:=P.cell;refine hf (v:= hI #[hG jW, gE ha 1]) (by simp[hn,hi,go_sem,J]) rfl ?_;rw[<-a4.o,X.o];exact⟨_,rfl,kG.zero _,an.o⟩
 | some r=>
  rw[bw] at df;obtain⟨a,rfl,a6,aB⟩:=df;have ci:=BF (wx x▸bw);have bT:=J4 bw;have da:=Lf l lo lc di bF.o.1 (by rw[a5.o];omega) (bF.o.2.1.below ah);rw[a5.o] at da;obtain⟨ck,dG⟩:=nM (iD gB l);rw[dG] at da;have dt:=gF da;obtain⟨f',bu⟩: ∃p,jP a= .pointer p:=by cases a with
   | none=>exact⟨gB,rfl⟩
   | some r=>exact⟨_,rfl⟩
  rw[bu];have b2:=gF (gK a6 (gK aB (gK ci (gK bT bu))));have au:=gF bw;have a3:=gF dG;clear a6 aB ci bT bu bw da dG;cases dH:(ck !=0);rotate_left;.
   have be:ck≠0:=by simpa using dH
   have X:Hid (lN x l=(iY,ck)):=gF (by rw[zy au.o (by rw[a3.o];exact be),a3.o]);clear a';go_wp2_with fail;refine dt.o.mono ?_;rintro i w2 ⟨rfl,aK⟩;have G:=G.gD aK;have ah:=iq ah aK;obtain⟨Wf,f⟩:=nM (jr w2 (h+1) (gE ha 0) (hA gB 0 0) (hA gB 0 0) (gE ha 0) (gE ha 0) (gE ha 0) (gE ha 0) (gE ha 0) (hA gB 0 0));have ay:=ap.o.2.2.2;have P:Bx Wf (h+1) jW 33:=by subst f;exact G.kh
   have q:Below w.heap.size w Wf:=by subst f;exact mV ah oM
   have ar:=gF f;have an:=gF q;clear q f ay;obtain⟨aw,a9,cu⟩:=G.c3;go_wp2;have V:=ar.o;unfold jr lj at V;rw[V];have J:=P.cell;refine hf (v:= hI #[hG jW, gE ha ck]) (by simp[hn,hi,go_sem,J]) rfl ?_;rw[<-a4.o,X.o];exact⟨_,rfl,kG.zero _,an.o⟩
  obtain rfl:ck=0:=by simpa using dH
  clear dH;go_wp2_with fail;refine dt.o.mono ?_;rintro i w2 ⟨rfl,aK⟩;have eV:Below di.heap.size di w2:=aK;have a':=a'.gD aK;have G:=G.gD aK;have eF:=iq ah aK;have bE:=gF (gK a' (gK G (gK eF eV)));clear aK eV a' G ah eF dt;go_wp2
  go_loopw [35] (fun C wr=> ∃k:Nat,k<=n/\C= gE ha k/\Below w2.heap.size w2 wr/\Hid (∀c∈l.take k,og r c=hd)) (fun C _=>n - (intOf C).toNat)
  case atStart=>exact⟨0,oM,rfl,Below.refl _ _,gF oC⟩
  case round=>
   obtain⟨k,fX,rfl,bb,c0⟩:=hrel;have gq:=bb.size
   by_cases d2:k<n
   .
    have bq:k<l.length:=by rw[a5.o];exact d2
    have aT:=iq bE.o.2.2.1 bb;obtain⟨g,f9,rfl,bd,b',cq,cr,cs,ct⟩:=(bF.o.2.1.below aT).cell bq;obtain⟨c,aj⟩:=nM (l[k]);rw[aj] at b' cq cr cs ct;have cO:l.take (k+1)=l.take k++[c]:=by rw[hg bq,aj]
    have eZ:c∈l:=by rw[<-aj];exact h6 bq
    obtain⟨key,bo,old,aJ,aN⟩:=c;simp only at b' cq cr cs ct;obtain⟨aI,cx,dU⟩: ∃aI cx,o5 r key=(aI,cx):=⟨_,_,rfl⟩;have e7: ∀W,Below wr.heap.size wr W->hD gA 60 #[.pointer f', hE key] W fun i w'=>i= ht (hI #[hE aI, hF cx])/\Below W.heap.size W w':=fun W fU=>by
     obtain⟨a6,aB,ci,bT,bu⟩:=b2.o;have N:=iq (iq bE.o.2.2.2 bb) fU;have:=J2 _ a key W (fun m u=>⟨(a6 m u).1.ij N,(a6 m u).2⟩) (fun m u=>by have:=bT m.nd (by rw[<-aB,u];rfl);exact⟨this.1,this.2.1⟩)
     rw[aB,dU,bu] at this;exact this
    have eu:=gF e7;have dw:=gF (gK cO eZ);have eY:og r ⟨key,bo,old,aJ,aN⟩=((cx !=bo)||decide (aI≠old)):=by unfold og;simp only[dU]
    have b5:=gF eY;have fG:=gF aT;clear e7 cO eZ eY aj dU aT bq;have ce:=Below.one wr (hM #[hE key, hF bo, hF aJ, hE old, hE aN] 71);have fD:=Bx.new wr #[hE key, hF bo, hF aJ, hE old, hE aN] 71;have O:=(eu.o _ ce);have ge:=b';have gh:g<wr.heap.size:=iU bd (jU (hY _) (hY _));have dq:=gF O;have b8:=gF (gK fD ce);have dn:=gF bb;clear O ce fD eu bb;cases cx
    case' true=>
     cases bo
     case' true=>
      by_cases aL:aI=old
      .
       subst aL;have bk:Hid (og r ⟨key,gy,aI,aJ,aN⟩=hd):=gF (by rw[b5.o];simp);go_wp2_with fail;refine dq.o.mono ?_;rintro i W4 ⟨rfl,aW⟩;have bC:=b8.o.1.gD aW;have bc:=iq b8.o.2 aW;obtain⟨eA,fz⟩:=bC.c2;have dm:=gF (iq dn.o bc);clear aW bc bC;go_wp2;go_roundw;case rel=>exact⟨k+1,oM,oQ,dm.o,gF (by
        rw[dw.o.1];intro c aj;rcases jD.1 aj with e|e;. exact c0.o c e
        . rw[lx.1 e];exact bk.o)⟩
       case measure=>simp[intOf];omega
      focus
       have bk:Hid (og r ⟨key,gy,old,aJ,aN⟩=gy):=gF (by rw[b5.o];simp[aL]);have d5: ¬aI.toList=old.toList:=fun i=>aL (oB i);have f0:(aI.toList==old.toList)=false:=by rw[beq_eq_false_iff_ne];exact d5
       clear aL
     rotate_left
     case' false=>have bk:Hid (og r ⟨key,hd,old,aJ,aN⟩=gy):=gF (by rw[b5.o];rfl)
    rotate_left 2
    case' false=>
     cases bo
     case' true=>have bk:Hid (og r ⟨key,gy,old,aJ,aN⟩=gy):=gF (by rw[b5.o];rfl)
     rotate_left
     case' false=>
      by_cases aL:aI=old
      .
       subst aL;have bk:Hid (og r ⟨key,hd,aI,aJ,aN⟩=hd):=gF (by rw[b5.o];simp);go_wp2_with fail;refine dq.o.mono ?_;rintro i W4 ⟨rfl,aW⟩;have bC:=b8.o.1.gD aW;have bc:=iq b8.o.2 aW;obtain⟨eA,fz⟩:=bC.c2;have dm:=gF (iq dn.o bc);clear aW bc bC;go_wp2;go_roundw;case rel=>exact⟨k+1,oM,oQ,dm.o,gF (by
        rw[dw.o.1];intro c aj;rcases jD.1 aj with e|e;. exact c0.o c e
        . rw[lx.1 e];exact bk.o)⟩
       case measure=>simp[intOf];omega
      focus
       have bk:Hid (og r ⟨key,hd,old,aJ,aN⟩=gy):=gF (by rw[b5.o];simp[aL]);have d5: ¬aI.toList=old.toList:=fun i=>aL (oB i);have f0:(aI.toList==old.toList)=false:=by rw[beq_eq_false_iff_ne];exact d5
       clear aL
    all_goals
     go_wp2_with fail;refine dq.o.mono ?_;rintro i W4 ⟨rfl,aW⟩;have bC:=b8.o.1.gD aW;have bc:=iq b8.o.2 aW;obtain⟨eA,fz⟩:=bC.c2;have X:Hid (lN x l=(iY,15)):=gF (zz au.o a3.o (List.any_eq_true.2 ⟨_,dw.o.2,bk.o⟩));have G:=(bE.o.2.1.gD dn.o).gD bc;have ah:=iq fG.o bc;clear aW bc bC;obtain⟨Wf,f⟩:=nM (jr W4 (h+1) (gE ha 0) (hA gB 0 0) (hA gB 0 0) (gE ha 0) (gE ha 0) (gE ha 0) (gE ha 0) (gE ha 0) (hA gB 0 0));have ay:=ap.o.2.2.2;have P:Bx Wf (h+1) jW 33:=by subst f;exact G.kh
     have q:Below w.heap.size w Wf:=by subst f;exact mV ah oM
     have ar:=gF f;have an:=gF q;clear q f ay;obtain⟨aw,a9,cu⟩:=G.c3;go_wp2;have V:=ar.o;unfold jr lj at V;rw[V];have J:=P.cell;refine hf (v:= hI #[hG jW, gE ha 15]) (by simp[hn,hi,go_sem,J]) rfl ?_;rw[<-a4.o,X.o];exact⟨_,rfl,kG.zero _,an.o⟩
   obtain rfl:k=n:=oM
   have eT: ∀c∈l,og r c=false:=by have:=c0.o;rw[ho (by rw[a5.o];exact hY _)] at this;exact this
   have eU:l.any (og r)=false:=by rw[List.any_eq_false];intro c aj;rw[eT c aj];decide
   have b4:=gF eU;clear eT eU c0;have bA:=bE.o.1.gD bb;have bB:=bE.o.2.1.gD bb;have aT:=iq bE.o.2.2.1 bb;have bK:=iq bE.o.2.2.2 bb
   by_cases e':k=0
   .
    subst e';have fb:l=[]:=hQ a5.o;have X:Hid (lN x l=(x,0)):=gF (by rw[fb];exact zA au.o);obtain⟨Wf,f⟩:=nM (jr wr (h+1) (gE ha x.gL.size) (hA ag x.gL.gG.length af) (hA ac x.gL.gH.length ab) (gE ha x.gL.left) (gE ha x.gI) (gE ha x.gJ) (gE ha x.gZ) (gE ha x.gN) (hA fo x.free.length fc));have ay:=ap.o.2.2.2;have P:Bx Wf (h+1) (ib x.gL ag ac af ab x.gI x.gJ x.gZ x.gN fo x.free.length fc) 33:=by subst f;exact bB.kh
    have q:Below w.heap.size w Wf:=by subst f;exact mV aT oM
    have ar:=gF f;have an:=gF q;obtain⟨aw,a9⟩:=bA.c2;unfold ib at aw;obtain⟨dy,ed,dA⟩:=bB.c3;clear q f ay bA bB aT bK fb;go_wp2;have V:=ar.o;unfold jr lj at V;rw[V];have J:=P.cell;unfold ib at J;refine hf (v:= hI #[hG (ib x.gL ag ac af ab x.gI x.gJ x.gZ x.gN fo x.free.length fc), gE ha 0]) (by simp[hn,hi,go_sem,J,ib]) rfl ?_;rw[<-a4.o,X.o];exact⟨_,rfl,bj.o.1.below an.o,an.o⟩
   have gm:((k:Int)==0)=false:=oN
   obtain⟨aw,a9⟩:=bA.c2;unfold ib at aw;have be:l≠[]:=fun i=>by rw[i] at a5;exact e' a5.o.symm
   have dl:=gF (gK bA (gK bB (gK aT (gK bK be))));clear bA bB aT bK be;have fZ:= @run_makeMap gA;go_upto_region 17 with fail
   obtain⟨Z,cd⟩:=nM wr.heap.size;rw[cd];obtain⟨W5,bQ⟩:=nM (((wr.alloc (.map #[] 0)).alloc (.map #[] 0)).alloc (hM #[.map (gz Z), hA fo x.free.length fc, hA gB 0 0, .map (gz (Z+1))] 121));rw[bQ];obtain⟨B1,eE⟩:=nM W0.heap.size;have f4:=c'.size;obtain⟨bA,bB,aT,bK,be⟩:=dl.o;have f5:=bK.size;have fV:B1<=Z:=oM
   have cI:Below wr.heap.size wr W5:=by rw[<-bQ];exact((Below.one wr _).alloc oC _).alloc oN _
   have f6:W5.heap.size=Z+1+1+1:=by rw[<-bQ];simp[cd]
   have f2:w.heap.size<=B1:=by have:=ap.o.2.2.1.size;omega
   have dD:=iq aT cI;have c9:se W5 B1 (Z+1+1) Z (Z+1) 0 (fun _=>gB) fo fc (hA gB 0 0) 0 ⟨x.free,[]⟩ []:=by refine⟨?_,?_,?_,bj.o.2.2.1,kb _ _ _ _,?_,oM,oM,oM,fun y aC=>by cases aC⟩;rw[<-bQ];exact Bx.ir _ _ _ _ (by simp[cd]);rw[<-bQ, <-cd];exact((lV.made wr).kept (hX _ _ gB) oC).kept (hX _ _ gB) oC;exact lp.js ((bj.o.2.2.2.1.below dD).row.mono fun b N=>iU N f2);rw[<-bQ];have:=(kx.made (wr.alloc (.map #[] 0))).kept (hX _ (hM #[.map (gz Z), hA fo x.free.length fc, hA gB 0 0, .map (gz (Z+1))] 121) gB) oC;simpa[cd] using this
   obtain⟨a6,aB,ci,bT,bu⟩:=b2.o;rw[eE] at a6;have eW:=iq bK cI;have aX:=(xX au.o).good;have fT:h+1<B1:=by have:=ap.o.2.1.lt;omega
   have dE:pI w W5 (ib x.gL ag ac af ab x.gI x.gJ x.gZ x.gN fo x.free.length fc) h B1 Z 0 (fun _=>gB) fo fc (hA gB 0 0) 0 ⟨x.free,[]⟩ [] a:=
    ⟨bA.gD cI,bB.gD cI,dD,c9,fun m u=>⟨(a6 m u).1.ij eW,(a6 m u).2.2⟩,oM,fT,ap.o.2.2.2,fV⟩
   have dQ:=Ln B1 Z a W5 (fun m u=>⟨(dE.tr m u).1,fun cT bS=>(aX.2.2.2.1 m.nd (by rw[<-aB,u];rfl) cT bS).enc aX.1 aX.2.1,by
    obtain⟨⟨fB,bV⟩,-⟩:=ci m.nd (by rw[<-aB,u];rfl);have H:=bV.cnt1;have I:=(bT m.nd (by rw[<-aB,u];rfl)).2.2
    omega⟩) c9.known
   rw[bu,aB] at dQ;have et:=gF dQ;have ei:=gF dE;have eX:=c9.box;obtain⟨aH,a8⟩:=eX.c2;clear aw a9 bQ eE f4 bA bB aT bK be f5 cI f6 dD c9 a6 aB ci bT bu eW dQ dE eX fZ;go_wp2_with fail;refine et.o.mono ?_;rintro i W6 ⟨rfl,⟨ec,eM⟩,db⟩;have eG:pI w W6 (ib x.gL ag ac af ab x.gI x.gJ x.gZ x.gN fo x.free.length fc) h B1 Z ec (sU r) fo fc (hA gB 0 0) 0 ⟨x.free,[]⟩ [] a:=by
    have e:=ei.o;have hK:gS [Z] W5 W6:=(gS.refl _ W5).pG db (fun fA de=> .inl (by cases de;simp));have eN:h∉[Z]/\h+1∉[Z]:=by have:=e.hN;have:=e.hZ;simp;omega
    obtain⟨-,-,-,-,fF,-,-⟩:True/\True/\True/\True/\(Z+1+1≠Z)/\True/\True:=⟨trivial,trivial,trivial,trivial,oM,trivial,trivial⟩;refine⟨hK.bx e.xN eN.1,hK.bx e.xR eN.2,hK.below e.below e.below.size fun b N=>?_,⟨hK.bx e.pl.box (by simpa using fF),eM,e.pl.fr.kept hK (by simpa using e.hZ) e.b1,e.pl.fs,zr e.pl.tk hK (by simp[Value.ownBlock]),e.pl.us.same (hK.2.2.2.2 _ e.pl.us.lt oC),e.pl.ui,e.pl.wm,e.pl.wq,e.pl.sz⟩,fun m u=>⟨(e.tr m u).1.rv ((e.tr m u).1.qs e.pl.known.obj) db,(e.tr m u).2⟩,jU e.b1 db.size,e.hN,e.hw,e.hZ⟩;have:=e.hw;have:=e.hN;have:=e.hZ;have:b=Z:=by simpa using N
    omega
   have ej:=gF eG;clear eM db eG ei et aH a8;go_wp2
   go_loopw [6,76] (fun fA C gc=> ∃(ao:Nat) (o:Option AT),ao<=k/\C= gE ha ao/\fA=jP o/\Hid (pI w gc (ib x.gL ag ac af ab x.gI x.gJ x.gZ x.gN fo x.free.length fc) h B1 Z ec (sU r) fo fc (hA gB 0 0) 0 ⟨x.free,[]⟩ [] o/\o.map (fun bz=>bz.nd.er)=(l.take ao).foldl j6 (r.map Nd.er))) (fun _ C _=>k - (intOf C).toNat)
   case atStart=>refine⟨0,a,oM,rfl,b2.o.2.2.2.2.symm,gF ⟨ej.o,?_⟩⟩;have aB:=b2.o.2.1;rw[hL,h8, <-aB];unfold pq;rw[Option.map_map];rfl
   case round=>
    obtain⟨ao,o,gl,rfl,rfl,bH⟩:=hrel;have dV:=wy a3.o;have dc:=fun cT=>xY (l:=l.take cT) (b2.o.2.2.1.er) (fun c aj=>(dV c (List.mem_of_mem_take aj)).1)
    by_cases fY:ao<k
    .
     have bq:ao<l.length:=by rw[a5.o];exact fY
     obtain⟨g,f9,rfl,bd,b',cq,cr,cs,ct⟩:=(bF.o.2.1.below bH.o.1.below).cell bq;obtain⟨c,aj⟩:=nM (l[ao]);rw[aj] at b' cq cr cs ct;have cO:(l.take (ao+1)).foldl j6 (r.map Nd.er)=j6 ((l.take ao).foldl j6 (r.map Nd.er)) c:=by rw[hg bq,aj,h5];rfl
     have fk: ∀m,o=gz m->(∃e,Tm 1 2 e m.nd)/\jZ m.nd.iv:=fun m u=>by obtain⟨⟨e,H⟩,I⟩:=(dc ao).1 m.nd.er (by rw[<-bH.o.2,u];rfl);exact⟨⟨e,Tm.lT.1 H⟩,by rw[Nd.lS] at I;exact I⟩
     obtain⟨key,bo,old,aJ,aN⟩:=c;simp only at b' cq cr cs ct;have ce:=Below.one wr (hM #[hE key, hF bo, hF aJ, hE old, hE aN] 71);have eQ:=bH.o.1.next ce;have dv:=gF (gK fk cO);have bh:=gF eQ;have fH:=gF bH.o.2;clear dV dc aj cO fk ce eQ bH bq;cases aJ
     case' true=>have d7:=Kq B1 (key,aN) o _ (fun m u=>by obtain⟨⟨e,H⟩,I⟩:=dv.o.1 m u;exact⟨(bh.o.tr m u).1,(bh.o.tr m u).2,H.qN oF oF,I⟩) bh.o.b1
     rotate_left
     case' false=>have d7:=K3 B1 key o _ (fun m u=>by obtain⟨H,I⟩:=dv.o.1 m u;exact⟨(bh.o.tr m u).1,(bh.o.tr m u).2,H,I⟩) bh.o.b1
     all_goals
      have ev:=gF d7;clear d7;go_wp2_with fail;refine ev.o.mono ?_;intro i b9 de;obtain⟨f8,rfl,e1,eH⟩:=bh.o.gN de;have eh:=gF (gK e1 eH);clear de e1 eH ev bh;go_wp2;go_roundw;case rel=>
       refine⟨ao+1,f8,oM,oQ,rfl,gF ⟨eh.o.2,?_⟩⟩;rw[eh.o.1,dv.o.2, <-fH.o];rfl
      case measure=>simp[intOf];omega
    obtain rfl:ao=k:=oM
    have dS:l.take ao=l:=ho (by rw[a5.o];exact hY _);obtain⟨eR,bR⟩:=bH.o;rw[dS] at bR;have dZ:=dc ao;rw[dS] at dZ;have fi:kO x r l=match o.map (fun bz=>bz.nd.er) with
      | none=>gz (gB,⟨x.free,[]⟩)
      | some n=>(l7 (fun bz=>sU r (bs bz)) n ⟨x.free,[]⟩).map fun y=>(gz y.1,y.2):=by
     unfold kO;rw[<-bR];cases o<;>rfl
    have du:=gF fi;have fK:=gF (gK dZ bR);have bi:=gF eR;have b6:=gF dl.o.2.2.2.2;have fJ:=gF dW;have a7:=(xX au.o).good;have cj:=(xX au.o).gZ;clear dV dc dS eR bR dZ fi bH ej fX dW dl;cases o
    case' none=>
     simp only[jP];have G:=bi.o.xR;have ah:=bi.o.below;obtain⟨R,aD⟩:=bi.o.xN.c2;unfold ib at R;cases cQ:(x.gZ==1099511627776)
     case' true=>
      have X:Hid (lN x l=(iY,17)):=gF (uX au.o a3.o b4.o b6.o (.inr (by simpa using cQ)));obtain⟨Wf,f⟩:=nM (jr wr (h+1) (gE ha 0) (hA gB 0 0) (hA gB 0 0) (gE ha 0) (gE ha 0) (gE ha 0) (gE ha 0) (gE ha 0) (hA gB 0 0));have ay:=ap.o.2.2.2;have P:Bx Wf (h+1) jW 33:=by subst f;exact G.kh
      have q:Below w.heap.size w Wf:=by subst f;exact mV ah oM
      have ar:=gF f;have an:=gF q;clear q f ay;obtain⟨aw,a9,cu⟩:=G.c3;go_wp2;have V:=ar.o;unfold jr lj at V;rw[V];have J:=P.cell;refine hf (v:= hI #[hG jW, gE ha 17]) (by simp[hn,hi,go_sem,J]) rfl ?_;rw[<-a4.o,X.o];exact⟨_,rfl,kG.zero _,an.o⟩
     clear G ah R aD;obtain⟨a0,br⟩: ∃n:Option Nd,n=none:=⟨_,rfl⟩;obtain⟨j,cM⟩: ∃j:kq,j=⟨x.free,[]⟩:=⟨_,rfl⟩;have c4:Hid (kO x r l=gz (a0,j)):=gF (by rw[du.o,br,cM];rfl);obtain⟨cw,e5⟩: ∃o:Option Addr,o=fo:=⟨_,rfl⟩;obtain⟨cv,e3⟩: ∃o:Nat,o=fc:=⟨_,rfl⟩;obtain⟨aF,d'⟩: ∃o:Option Addr,o=none:=⟨_,rfl⟩;obtain⟨aE,d9⟩: ∃o:Nat,o=0:=⟨_,rfl⟩;obtain⟨rt,bU⟩: ∃o:Int,o=0:=⟨_,rfl⟩;have aq:Hid (nN w wr (ib x.gL ag ac af ab x.gI x.gJ x.gZ x.gN fo x.free.length fc) #[.map (gz Z), hA cw j.free.length cv, hA aF j.ws.length aE, .map (gz (Z+1))] h (Z+1+1) aF aE j.ws):=gF (by
      have e:=bi.o;refine⟨e.xN,e.xR,?_,e.below,?_,e.hw⟩;. rw[cM,e5,e3,d',d9];exact e.pl.box
      . rw[cM];intro C fW;simp at fW)
     have co:Hid (jk aF j.ws.length aE/\(∀y∈j.ws,y.data.size<=1000)/\j.ws.length<=50000):=gF (by
      rw[cM,d',d9];exact⟨.inl ⟨rfl,rfl,rfl⟩,fun y aC=>(by cases aC),hl _⟩)
     have b7:Hid (iA a0=rt/\0<=rt/\rt<=1000000):=gF (by rw[br,bU];exact⟨rfl,oM,oM⟩);have fL:=gF bU;have c5:Hid (x.gZ≠1099511627776):=gF (by simpa using cQ);clear bU;obtain⟨cX,cP⟩: ∃n:Nat,n=0:=⟨_,rfl⟩;have dr:Hid (kx wr (Z+1) cX (lh a0)):=gF (by rw[cP,br];exact bi.o.pl.us);clear d' d9 e5 e3 br cM cP;obtain⟨av,rfl⟩:=nP wr;obtain⟨R,aD⟩:=aq.o.xN.c2;unfold ib at R;obtain⟨aH,a8⟩:=aq.o.xP.c2;obtain⟨FR,bL⟩:=nM (mv x.gI x.gJ (lh a0));have cJ: ∀W,Below av.heap.size av W->hD gA 77 #[gE ha x.gI, gE ha x.gJ, .map (gz (Z+1))] W fun i w'=> ∃o c,i= ht (hA o FR.length c)/\w'.ownsRow W.heap.size 3 1 (hA o FR.length c) FR.length (jI FR)/\Below W.heap.size W w':=fun W N=>by have:=Ba x.gI x.gJ (Z+1) cX (lh a0) W (dr.o.below N) a7.1 a7.2.1 oM;rw[bL] at this;exact this
     have cp:=gF cJ;have el:=gF bL;have ew:=gF (gK a7 cj);have cR:wrap64 (x.gZ+1)=x.gZ+1:=hJ _ oM;have dx:=gF cR;clear cJ bL a7 cj cR;have bJ:=jv.cells av;have aP:Hid (∀y:jv av,Below av.heap.size av y.w):=gF fun y=>y.h;go_upto_region 27 with fail
     refine pS 18 1 #[gy,gy,gy,gy,gy,gy,gy,gy,gy,gy,gy,gy,gy,gy,gy,gy,gy,gy,hd] (fun C=>if C=12 then gz (iw (.pointer (gz ⟨Z+1+1,0,gB⟩))) else if C=15 then gz (oh FR) else if C=16 then gz (rR x.gI x.gJ (x.gZ+1) FR) else if C=17 then gz (x9 33 jW) else gB) oP oO oO oP ?_;simp only[hy,hL];refine LW.b 12 12 ?_;simp only[jC];repeat (go_big_quiet_step (fail))
     refine hh ?_;refine LW.z ?_ ?_;intro U _;exact pC oO;intro _;simp only[hj,gU]
     (try simp only[iw])
     refine LW.b 2 15 ?_;simp only[jC];repeat (go_big_quiet_step (fail))
     refine hh ?_;refine LW.z ?_ ?_;. intro U _;unfold ix;go_simp;exact rQ (cp.o _ (aP.o _))
     intro a1;simp only[hj,gU,oh];refine LW.z ?_ ?_;. intro U ch;have cy:jk (jK (a1.x 0)) FR.length (j3 (a1.x 0))/\jQ U.w (jK (a1.x 0)) FR:=(ch 15 (by decide+kernel)).get oO oO;unfold ix;go_simp;rw[dx.o];exact⟨Below.refl _ _,fun _=> hA (jK (a1.x 0)) FR.length (j3 (a1.x 0)),rfl,fun fC N=>⟨cy.1,cy.2.below N⟩⟩
     intro cV;simp only[hj,gU,rR];refine LW.z ?_ ?_;. intro U _;unfold ix;go_simp;exact Fx U.w
     intro cW;simp only[hj,gU,x9];refine LW.done ?_;intro b9 O;have cf:=O.below;have al:=O.get 17 rfl rfl;have aS:=O.get 16 rfl rfl;have cD:=(O.range 17 cW rfl).1;simp only at al aS;obtain⟨M,cC⟩:=nM cW.lo;obtain⟨ad,cL⟩:=nM (jK (cV.x 0));obtain⟨ax,cK⟩:=nM (j3 (cV.x 0));rw[cC] at al cD |-;rw[cL,cK] at aS |-;have bP:=aq.o.next cf;obtain⟨W9,aA⟩:=nM (jr b9 M (gE ha 0) (hA gB 0 0) (hA gB 0 0) (gE ha 0) (gE ha x.gI) (gE ha x.gJ) (gE ha (x.gZ+1)) (gE ha 0) (hA ad FR.length ax));have dX:=aq.o.xR.lt;have dY:=aq.o.xP.lt;have T:M≠h/\M≠h+1/\M≠Z+1+1/\w.heap.size<=M:=⟨oM,oM,oM,by have:=aq.o.hw;omega⟩;have bt:Only M b9 W9:=by rw[<-aA];exact Only.nine
     have cZ:Bx W9 M #[gE ha 0, hA gB 0 0, hA gB 0 0, gE ha 0, gE ha x.gI, gE ha x.gJ, gE ha (x.gZ+1), gE ha 0, hA ad FR.length ax] 33:=by rw[<-aA];exact al.kh
     have cF:=bP.only al (kZ _ _ _ _ _ _ _ _ _ _ _ _ _ _ _) bt (by rw[<-aA];exact mV bP.below T.2.2.2) T.1 T.2.1 T.2.2.1;have cB:=aS.2.only al oF bt;have b3:=gF (gK cF (gK cZ (gK (gK aS.1 cB) T)))
     skip
     obtain⟨aR,aZ,ca⟩:=al.c3;clear O aS cD cC cL cK bP dX dY T bt cZ cF cB R aD aH a8 bJ aP cp cf;refine iG 18 fun K hK=>?_;go_simp;refine hK _ _ ?_;clear hK K;refine kS ?_;unfold jr lj at aA;rw[aA];clear aA aR aZ ca al;obtain⟨Wm,rfl⟩:=nP W9;have cl:Hid (nN w Wm (ib x.gL ag ac af ab x.gI x.gJ x.gZ x.gN fo x.free.length fc) #[.map (gz Z), hA cw j.free.length cv, hA aF j.ws.length aE, .map (gz (Z+1))] h (Z+1+1) aF aE j.ws/\Bx Wm M #[gE ha 0, hA gB 0 0, hA gB 0 0, gE ha 0, gE ha x.gI, gE ha x.gJ, gE ha (x.gZ+1), gE ha rt, hA ad FR.length ax] 33/\(jk ad FR.length ax/\jQ Wm ad FR)/\M≠h/\M≠h+1/\M≠Z+1+1/\w.heap.size<=M):=gF (by rw[fL.o];exact b3.o);clear b3
    case' some t1=>
     simp only[jP,AT.ptr];have cA:=bi.o;have aX:=(xX au.o).good;obtain⟨⟨dL,d0⟩,bR⟩:=fK.o;have eS:l.foldl j6 (r.map Nd.er)=gz t1.nd.er:=bR.symm;rw[eS] at dL d0;obtain⟨⟨fB,bV⟩,-⟩:=dL _ rfl;rw[Tm.lT] at bV;have fh:t1.nd.pre.length<=20000:=by
      have H:=bV.cnt1;have I:(jz (r.map Nd.er)).length<=6000:=by
       cases cN:r with
       | none=>exact hl _
       | some n=>have:=(b2.o.2.2.2.1 n cN).2.2;simp only[hz,jz,Nd.lS];exact this
      have cz:(jz (gz t1.nd.er)).length=t1.nd.iv.length:=by simp only[jz,Nd.lS]
      rw[cz,a5.o] at d0;have:=fJ.o;omega
     have dM:oH (fun bz=>sU r (bs bz)) ⟨x.free,[]⟩:=by
      refine⟨fun bz g bd=>?_,fun g bd=>?_⟩;.
       cases cN:r with
       | none=>rw[cN] at bd;cases bd
       | some n=>rw[cN] at bd;rcases zB bd with e|⟨cT,bS,-,gn⟩;cases e;obtain⟨-,-,gf,gg,-⟩:=aX.2.2.2.1 n cN cT bS;have:=aX.1;have:=aX.2.1;omega
      have:=aX.2.2.2.2 g bd;have:=aX.1;have:=aX.2.1;omega
     have dP:=Lc B1 (Z+1+1) Z (Z+1) ec (sU r) t1 wr fo fc (hA gB 0 0) 0 ⟨x.free,[]⟩ [] 1 2 fB oF oF bV (cA.tr t1 rfl).1 (cA.tr t1 rfl).2 cA.pl dM cA.b1 oM (by simp only[hR];omega);have fl:t1.ptr= .pointer (gz ⟨t1.b,0,gB⟩):=rfl;rw[fl] at dP;have ds:=gF dP;have ex:=gF (gK bV (gK fh dM));obtain⟨gu,d8⟩:=nM t1.b;rw[d8] at ds |-;have fM:=gF d8;clear cA aX dL d0 bR eS bV fh dM dP fl d8;go_wp2_with fail;refine ds.o.mono ?_;rintro i W7 ⟨c7,f1⟩;have ef:Bx W7 h (ib x.gL ag ac af ab x.gI x.gJ x.gZ x.gN fo x.free.length fc) 33/\Bx W7 (h+1) jW 33/\Below w.heap.size w W7:=by
      have e:=bi.o;have d2:=(e.tr t1 rfl).1.lt;have c8:=e.hN;have cd:=e.hZ;have gp:=e.hw;have dT: ∀y∈((Z+1+1)::(Z+1)::((Value.slice gB 0 0).ownBlock.toList++t1.fp)),B1<=y:=fun y aC=>by
       have f3:y=Z+1+1\/y=Z+1\/y∈t1.fp:=by simpa[Value.ownBlock] using aC
       rcases f3 with i|i|i;omega;omega;exact(d2 y i).1
      exact⟨c7.bx e.xN (fun bS=>by have:=dT _ bS;omega),c7.bx e.xR (fun bS=>by have:=dT _ bS;omega),c7.below e.below e.below.size fun b N=>by have:=dT b N;omega⟩
     obtain⟨R,aD⟩:=ef.1.c2;unfold ib at R;have bG:=gF ef;clear ef c7 ds;rcases f1 with⟨bv,rfl⟩|⟨n',j,dh,cw,cv,gv,bv,rfl,aK,e2,br,dJ,cc,-⟩;.
      have X:Hid (lN x l=(iY,17)):=gF (uX au.o a3.o b4.o b6.o (.inl (by
       rw[du.o];simp only[hz];rw[zx,bv];rfl)))
      have G:=bG.o.2.1;have ah:=bG.o.2.2;clear bv;obtain⟨Wf,f⟩:=nM (jr W7 (h+1) (gE ha 0) (hA gB 0 0) (hA gB 0 0) (gE ha 0) (gE ha 0) (gE ha 0) (gE ha 0) (gE ha 0) (hA gB 0 0));have ay:=ap.o.2.2.2;have P:Bx Wf (h+1) jW 33:=by subst f;exact G.kh
      have q:Below w.heap.size w Wf:=by subst f;exact mV ah oM
      have ar:=gF f;have an:=gF q;clear q f ay;obtain⟨aw,a9,cu⟩:=G.c3;go_wp2;have V:=ar.o;unfold jr lj at V;rw[V];have J:=P.cell;refine hf (v:= hI #[hG jW, gE ha 17]) (by simp[hn,hi,go_sem,J]) rfl ?_;rw[<-a4.o,X.o];exact⟨_,rfl,kG.zero _,an.o⟩
     cases cQ:(x.gZ==1099511627776)
     case' true=>
      have X:Hid (lN x l=(iY,17)):=gF (uX au.o a3.o b4.o b6.o (.inr (by simpa using cQ)));have G:=bG.o.2.1;have ah:=bG.o.2.2;clear bv aK e2 br dJ cc;obtain⟨Wf,f⟩:=nM (jr W7 (h+1) (gE ha 0) (hA gB 0 0) (hA gB 0 0) (gE ha 0) (gE ha 0) (gE ha 0) (gE ha 0) (gE ha 0) (hA gB 0 0));have ay:=ap.o.2.2.2;have P:Bx Wf (h+1) jW 33:=by subst f;exact G.kh
      have q:Below w.heap.size w Wf:=by subst f;exact mV ah oM
      have ar:=gF f;have an:=gF q;clear q f ay;obtain⟨aw,a9,cu⟩:=G.c3;go_wp2;have V:=ar.o;unfold jr lj at V;rw[V];have J:=P.cell;refine hf (v:= hI #[hG jW, gE ha 17]) (by simp[hn,hi,go_sem,J]) rfl ?_;rw[<-a4.o,X.o];exact⟨_,rfl,kG.zero _,an.o⟩
     obtain⟨a0,dd⟩: ∃n:Option Nd,n=gz n':=⟨_,rfl⟩;have c4:Hid (kO x r l=gz (a0,j)):=gF (by
      rw[du.o,dd];simp only[hz];rw[zx,bv];rfl)
     obtain⟨aF,aE,rfl,fv,fn,-⟩:=nC cc.tk;have aq:Hid (nN w W7 (ib x.gL ag ac af ab x.gI x.gJ x.gZ x.gN fo x.free.length fc) #[.map (gz Z), hA cw j.free.length cv, hA aF j.ws.length aE, .map (gz (Z+1))] h (Z+1+1) aF aE j.ws):=gF ⟨bG.o.1,bG.o.2.1,cc.box,bG.o.2.2,iV.js (fn.mono fun y aC=>aC.2),bi.o.hw⟩;have co:Hid (jk aF j.ws.length aE/\(∀y∈j.ws,y.data.size<=1000)/\j.ws.length<=50000):=gF ⟨fv,cc.sz,by
      have H:=wk _ _ _ _ bv;have I:=ex.o.2.1;simp only[hR] at H
      omega⟩
     obtain⟨rt,bU⟩:=nM n'.page;have fj:=uT _ _ _ _ bv;have b7:Hid (iA a0=rt/\0<=rt/\rt<=1000000):=gF (by
      rw[dd, <-bU];exact⟨rfl,fj.2.2 ex.o.2.2⟩)
     obtain⟨cX,cP⟩: ∃n:Nat,0+t1.nd.pre.length=n:=⟨_,rfl⟩;have dr:Hid (kx W7 (Z+1) cX (lh a0)):=gF (by
      have:=cc.us;rw[cP] at this;rw[dd];exact this)
     have dg:=dJ.hx;have fg:dh.page=rt:=by rw[<-AT.ql,br];exact bU
     rw[aK,fM.o,fg] at dg;obtain⟨gt,fm⟩:=nM dh.pv;obtain⟨gr,fa⟩:=nM dh.kv;obtain⟨gs,fd⟩:=nM dh.gC.isEmpty;rw[fm,fa,fd] at dg;have eq:=gF dg;have c5:Hid (x.gZ≠1099511627776):=gF (by simpa using cQ);clear bv aK e2 br dJ cc dd fv fn bU fj cP dg fg fm fa fd;obtain⟨av,rfl⟩:=nP W7;obtain⟨R,aD⟩:=aq.o.xN.c2;unfold ib at R;obtain⟨aH,a8⟩:=aq.o.xP.c2;obtain⟨FR,bL⟩:=nM (mv x.gI x.gJ (lh a0));have cJ: ∀W,Below av.heap.size av W->hD gA 77 #[gE ha x.gI, gE ha x.gJ, .map (gz (Z+1))] W fun i w'=> ∃o c,i= ht (hA o FR.length c)/\w'.ownsRow W.heap.size 3 1 (hA o FR.length c) FR.length (jI FR)/\Below W.heap.size W w':=fun W N=>by have:=Ba x.gI x.gJ (Z+1) cX (lh a0) W (dr.o.below N) a7.1 a7.2.1 oM;rw[bL] at this;exact this
     have cp:=gF cJ;have el:=gF bL;have ew:=gF (gK a7 cj);have cR:wrap64 (x.gZ+1)=x.gZ+1:=hJ _ oM;have dx:=gF cR;clear cJ bL a7 cj cR;have bJ:=jv.cells av;have aP:Hid (∀y:jv av,Below av.heap.size av y.w):=gF fun y=>y.h;go_upto_region 27 with fail
     refine pS 18 1 #[gy,gy,gy,gy,gy,gy,gy,gy,gy,gy,gy,gy,gy,gy,gy,gy,gy,gy,hd] (fun C=>if C=12 then gz (iw (.pointer (gz ⟨Z+1+1,0,gB⟩))) else if C=15 then gz (oh FR) else if C=16 then gz (rR x.gI x.gJ (x.gZ+1) FR) else if C=17 then gz (x9 33 jW) else gB) oP oO oO oP ?_;simp only[hy,hL];refine LW.b 12 12 ?_;simp only[jC];repeat (go_big_quiet_step (fail))
     refine hh ?_;refine LW.z ?_ ?_;intro U _;exact pC oO;intro _;simp only[hj,gU]
     (try simp only[iw])
     refine LW.b 2 15 ?_;simp only[jC];repeat (go_big_quiet_step (fail))
     refine hh ?_;refine LW.z ?_ ?_;. intro U _;unfold ix;go_simp;exact rQ (cp.o _ (aP.o _))
     intro a1;simp only[hj,gU,oh];refine LW.z ?_ ?_;. intro U ch;have cy:jk (jK (a1.x 0)) FR.length (j3 (a1.x 0))/\jQ U.w (jK (a1.x 0)) FR:=(ch 15 (by decide+kernel)).get oO oO;unfold ix;go_simp;rw[dx.o];exact⟨Below.refl _ _,fun _=> hA (jK (a1.x 0)) FR.length (j3 (a1.x 0)),rfl,fun fC N=>⟨cy.1,cy.2.below N⟩⟩
     intro cV;simp only[hj,gU,rR];refine LW.z ?_ ?_;. intro U _;unfold ix;go_simp;exact Fx U.w
     intro cW;simp only[hj,gU,x9];refine LW.done ?_;intro b9 O;have cf:=O.below;have al:=O.get 17 rfl rfl;have aS:=O.get 16 rfl rfl;have cD:=(O.range 17 cW rfl).1;simp only at al aS;obtain⟨M,cC⟩:=nM cW.lo;obtain⟨ad,cL⟩:=nM (jK (cV.x 0));obtain⟨ax,cK⟩:=nM (j3 (cV.x 0));rw[cC] at al cD |-;rw[cL,cK] at aS |-;have bP:=aq.o.next cf;obtain⟨W9,aA⟩:=nM (jr b9 M (gE ha 0) (hA gB 0 0) (hA gB 0 0) (gE ha 0) (gE ha x.gI) (gE ha x.gJ) (gE ha (x.gZ+1)) (gE ha 0) (hA ad FR.length ax));have dX:=aq.o.xR.lt;have dY:=aq.o.xP.lt;have T:M≠h/\M≠h+1/\M≠Z+1+1/\w.heap.size<=M:=⟨oM,oM,oM,by have:=aq.o.hw;omega⟩;have bt:Only M b9 W9:=by rw[<-aA];exact Only.nine
     have cZ:Bx W9 M #[gE ha 0, hA gB 0 0, hA gB 0 0, gE ha 0, gE ha x.gI, gE ha x.gJ, gE ha (x.gZ+1), gE ha 0, hA ad FR.length ax] 33:=by rw[<-aA];exact al.kh
     have cF:=bP.only al (kZ _ _ _ _ _ _ _ _ _ _ _ _ _ _ _) bt (by rw[<-aA];exact mV bP.below T.2.2.2) T.1 T.2.1 T.2.2.1;have cB:=aS.2.only al oF bt;have b3:=gF (gK cF (gK cZ (gK (gK aS.1 cB) T)));have en:=gF ((eq.o.gD cf).only bt fun i=>by have H:=eq.o.lt;omega);obtain⟨aR,aZ,ca⟩:=al.c3;clear O aS cD cC cL cK bP dX dY T bt cZ cF cB R aD aH a8 bJ aP cp cf;refine iG 18 fun K hK=>?_;go_simp;refine hK _ _ ?_;clear hK K;refine kS ?_;unfold jr lj at aA;rw[aA];clear aA aR aZ ca al;obtain⟨eB,f7⟩:=en.o.c2;unfold gX at eB;obtain⟨aR,aZ,ca⟩:=b3.o.2.1.c3;go_upto_region 30 with fail
     obtain⟨Wm,cH⟩:=nM (W9.setCell ⟨M,7,gB⟩ (gE ha rt));rw[cH];have cl:Hid (nN w Wm (ib x.gL ag ac af ab x.gI x.gJ x.gZ x.gN fo x.free.length fc) #[.map (gz Z), hA cw j.free.length cv, hA aF j.ws.length aE, .map (gz (Z+1))] h (Z+1+1) aF aE j.ws/\Bx Wm M #[gE ha 0, hA gB 0 0, hA gB 0 0, gE ha 0, gE ha x.gI, gE ha x.gJ, gE ha (x.gZ+1), gE ha rt, hA ad FR.length ax] 33/\(jk ad FR.length ax/\jQ Wm ad FR)/\M≠h/\M≠h+1/\M≠Z+1+1/\w.heap.size<=M):=gF (by
      obtain⟨H,I,⟨cz,eD⟩,cb⟩:=b3.o;have aL:Only M W9 Wm:=by rw[<-cH];exact Only.one
      refine⟨H.only I (kZ _ _ _ _ _ _ _ _ _ _ _ _ _ _ _) aL (by rw[<-cH];exact iT H.below cb.2.2.2) cb.1 cb.2.1 cb.2.2.1,?_,⟨cz,eD.only I oF aL⟩,cb⟩;rw[<-cH];exact I.set 7 _)
     clear b3 en eB f7 aR aZ ca cH
    all_goals
     obtain⟨nw,d4⟩:=nM j.ws.length;obtain⟨aR,aZ⟩:=cl.o.2.1.c2;obtain⟨R,aD⟩:=cl.o.1.xN.c2;unfold ib at R;obtain⟨aH,a8⟩:=cl.o.1.xP.c2;rw[d4] at aH;obtain⟨K,hK⟩:=nM Wm.heap.size;have cg:=Below.one Wm (hM (dC x.gL ag ac af ab) 25);have dj:=Bx.new Wm (dC x.gL ag ac af ab) 25;rw[hK] at dj;obtain⟨bN,dK,dI,T⟩:=cl.o;have ae:K≠h/\K≠h+1/\K≠Z+1+1/\K≠M/\w.heap.size<=K:=by have H:=bN.xN.lt;have I:=bN.xR.lt;have cz:=bN.xP.lt;have eD:=dK.lt;have cb:=bN.below.size;omega
     obtain⟨Y,aV⟩:=nM (Wm.alloc (hM (dC x.gL ag ac af ab) 25));rw[aV] at dj cg;have ak:=gF (gK (bN.next cg) (gK (dK.gD cg) (gK (gK dI.1 (dI.2.below cg)) T)));have c2:=gF ((bj.o.2.1.below bN.below).below cg);have ba:=gF (gK dj ae);have em:=gF hK;have c3:=gF d4;have es:=gF aV;clear cg dj bN dK dI T ae aV hK d4
     by_cases fR:nw=0
     case' pos=>
      subst fR;go_upto_region 34 with fail
      rw[em.o];have aV:=es.o;unfold dC at aV;rw[aV];clear aV aR aZ R aD aH a8;have ek:Hid (x.gL.gH.length<=960000):=gF (by have:=bF.o.2.2;omega);have eo:Hid (∀D i,gR x.gL (j0 [qQ x rt])=(D,i)->gR x.gL (n5 x j.ws rt)=(D,i)):=gF (fun D i e=>by rw[hQ c3.o,Fw];exact e)
     case' neg=>
      have go:0<nw:=oM
      go_upto_region 32 with fail
      rw[em.o];have aV:=es.o;unfold dC at aV;rw[aV];clear aV aR aZ R aD aH a8;have aQ:=ba.o.1.cell;unfold dC at aQ;have bW:=ba.o.1.lt;obtain⟨aH,a8⟩:=ak.o.1.xP.c2;rw[c3.o] at aH;obtain⟨D1,er,dF⟩: ∃D i,gR x.gL (j0 j.ws)=(D,i):=⟨_,_,rfl⟩;have dO:=BR (j0 j.ws) x.gL;rw[dF] at dO;have ek:Hid (D1.gH.length<=960000):=gF (by
       have H:=bF.o.2.2;have I:=co.o.2.2;have cz:(j0 j.ws).length=j.ws.length+1:=by unfold j0;simp
       simp only at dO
       omega)
      have dp:=gF dF;have fw: ∀y∈j.ws,y.data.size<=140737488351232:=fun y aC=>jU (co.o.2.1 y aC) oF;have ft:x.gL.gH.length+j.ws.length<=1000000:=jU (Nat.add_le_add bF.o.2.2 co.o.2.2) oF;have ea: ∀W,Below Y.heap.size Y W->hD gA 45 #[hG (dC x.gL ag ac af ab), hA aF nw aE] W (n9 W D1 er):=fun W N=>by have cE:=Bc x.gL _ j.ws aF aE W (c2.o.below N) ((ak.o.1.pw.below N).mono fun _ aC=>iU aC N.size) co.o.1 fw ft;rw[dp.o,c3.o] at cE;exact cE
      unfold dC at ea;have fN:=gF ea;clear fw ft ea;have bJ:=jv.cells Y;have aP:Hid (∀y:jv Y,Below Y.heap.size Y y.w):=gF fun y=>y.h;clear dF dO;refine sf 9 8 2 #[gy,gy,gy,gy,gy,gy,gy,gy,hd,hd,hd] #[gy,gy,gy,gy,gy,gy,gy,gy,gy,hd,hd] (fun C=>if C=2 then gz (iw (.pointer (gz ⟨Z+1+1,0,gB⟩))) else if C=5 then gz (nh D1 er) else gB) _ oP rfl oO oO oP oO rfl (fun _ _ _ _ e=>e) (sg _ _ rfl) ?_;simp only[hy,hL];refine LW.b 2 2 ?_;simp only[jC];repeat (go_big_quiet_step (fail))
      refine hh ?_;refine LW.z ?_ ?_;intro U _;exact pC oO;intro _;simp only[hj,gU]
      (try simp only[iw])
      refine LW.b 2 5 ?_;simp only[jC];repeat (go_big_quiet_step (fail))
      refine hh ?_;refine LW.z ?_ ?_;. intro U _;unfold ix;go_simp;exact qM (fN.o _ (aP.o U))
      intro gb;simp only[hj,gU,nh];refine LW.b 3 9 ?_;simp only[jC];repeat (go_big_quiet_step (fail))
      refine hh ?_;refine LW.done ?_;intro bI O;have eP:iF bI (gb.x 0) D1:=O.get 5 rfl rfl;have aU:=O.below;have bM:=eP;obtain⟨bY,bX,b0,bZ,fP⟩:=eP.agg;rw[fP] at bM |-;have aG:=ba.o.1.gD aU;obtain⟨W4,az⟩:=nM (mj bI K (gE ha D1.size) (hA bY D1.gG.length bX) (hA b0 D1.gH.length bZ) (gE ha D1.left));have ae:=ba.o.2;have aY:Only K bI W4:=by rw[<-az];exact tY
      have cY:Bx W4 K (dC D1 bY b0 bX bZ) 25:=by rw[<-az];exact aG.mj
      have bO:=ak.o.1.next aU;have aa:=gF (gK (bO.only aG (uQ _ _ _ _ _) aY (by rw[<-az];exact r8 bO.below ae.2.2.2.2) ae.1 ae.2.1 ae.2.2.1) (gK ((ak.o.2.1.gD aU).only aY fun i=>ae.2.2.2.1 i.symm) (gK (gK ak.o.2.2.1.1 ((ak.o.2.2.1.2.below aU).only aG oF aY)) ak.o.2.2.2)));have cm:=gF (bM.only aG (uQ _ _ _ _ _) aY);obtain⟨aQ,bW,dz⟩:=aG.c3;have c1:=gF (gK cY ae);clear O aU bM aG ae aY cY bO aH a8 bJ aP;refine iG 9 fun K hK=>?_;go_simp;refine hK _ _ ?_;clear hK K;refine iG 10 fun K hK=>?_;go_simp;refine hK _ _ ?_;clear hK K;refine kS ?_;unfold mj at az;rw[az];clear az aQ bW dz;have fu:j.ws≠[]:=fun i=>by have:=c3.o;rw[i] at this;simp at this;omega
      have ez:=gF fu;clear fu;cases bp:(er !=0)
      case' true=>
       obtain⟨Y,rfl⟩:=nP W4;obtain⟨D,rfl⟩:=nP D1;obtain⟨F,rfl⟩:=nP bY;obtain⟨E,rfl⟩:=nP bX;obtain⟨t,rfl⟩:=nP b0;obtain⟨s,rfl⟩:=nP bZ;obtain⟨aQ,bW⟩:=c1.o.1.c2;unfold dC at aQ;have X:Hid (lN x l=({ x with gL:=D },er)):=gF (by
        have be:er≠0:=by simpa using bp
        rw[xd (D:=D) (er:=er) au.o a3.o b4.o b6.o c4.o c5.o (by rw[b7.o.1];exact LP rt ez.o dp.o be),if_pos be])
       have gk:(er==0)=false:=by simpa using bp
       have bf:=aa.o.1.xN;have a2:=aa.o.1.xR;have cS:=aa.o.1.hw;obtain⟨We,ai⟩:=nM (mj Y h (gE ha D.size) (hA F D.gG.length E) (hA t D.gH.length s) (gE ha D.left));have aM:Only h Y We:=by rw[<-ai];exact tY
       have eg:Bx We h (ib D F t E s x.gI x.gJ x.gZ x.gN fo x.free.length fc) 33:=by rw[<-ai];have:=((((bf.set 0 (gE ha D.size)).set 1 (hA F D.gG.length E)).set 2 (hA t D.gH.length s)).set 3 (gE ha D.left));simpa[ib,Go.Proofs.YtlefmmhlpgmbjaaGreat.mj] using this
       have aO:=a2.only aM oM;have bm:Below w.heap.size w We:=by rw[<-ai];exact r8 aa.o.1.below oM
       have bn:iF We (hG (dC D F t E s)) D:=cm.o.only bf (kZ _ _ _ _ _ _ _ _ _ _ _ _ _ _ _) aM;obtain⟨Wf,f⟩:=nM (jr We (h+1) (gE ha D.size) (hA F D.gG.length E) (hA t D.gH.length s) (gE ha D.left) (gE ha x.gI) (gE ha x.gJ) (gE ha x.gZ) (gE ha x.gN) (hA fo x.free.length fc));have P:Bx Wf (h+1) (ib D F t E s x.gI x.gJ x.gZ x.gN fo x.free.length fc) 33:=by rw[<-f];exact aO.kh
       have q:Below w.heap.size w Wf:=by rw[<-f];exact mV bm oM
       have bD:iF Wf (hG (dC D F t E s)) D:=bn.only aO (kZ _ _ _ _ _ _ _ _ _ _ _ _ _ _ _) (by rw[<-f];exact Only.nine);have am:=gF (gK P (gK q bD));have cn:=gF (gK ai f);obtain⟨R,aD,fQ⟩:=bf.c3;unfold ib at R;obtain⟨dy,ed,dA⟩:=a2.c3;clear ai aM eg aO bm bn f P q bD bf a2 cS;go_wp2;obtain⟨H,I⟩:=cn.o;unfold mj at H;unfold jr lj at I;rw[H,I];have J:=am.o.1.cell;unfold ib at J;refine hf (v:= hI #[hG (ib D F t E s x.gI x.gJ x.gZ x.gN fo x.free.length fc), gE ha er]) (by simp[hn,hi,go_sem,J,ib]) rfl ?_;rw[<-a4.o,X.o];exact⟨_,rfl,⟨F,E,t,s,fo,fc,rfl,am.o.2.2,bj.o.2.2.1,bj.o.2.2.2.2.below am.o.2.1⟩,am.o.2.1⟩
      obtain rfl:er=0:=by simpa using bp
      clear bp;go_upto_region 34 with fail
      obtain⟨Y,rfl⟩:=nP W4;have ak:=gF aa.o;have c2:=gF cm.o;have ba:=gF c1.o;have eo:Hid (∀D i,gR D1 (j0 [qQ x rt])=(D,i)->gR x.gL (n5 x j.ws rt)=(D,i)):=gF (fun D i e=>by rw[LQ rt ez.o dp.o];exact e)
     all_goals
      have aQ:=ba.o.1.cell;unfold dC at aQ;have bW:=ba.o.1.lt;obtain⟨aR,aZ⟩:=ak.o.2.1.c2;obtain⟨R,aD⟩:=ak.o.1.xN.c2;unfold ib at R;obtain⟨bg,c6⟩:=nM (bs (jd 512 (x.gZ+1).toNat rt.toNat));obtain⟨a7,cj⟩:=ew.o;have e8: ∀W,hD gA 47 #[gE ha (x.gZ+1), gE ha rt] W fun i w'=>i= ht (hE bg)/\Below W.heap.size W w':=fun W=>by have:=yR (x.gZ+1).toNat rt.toNat W;rw[show(((x.gZ+1).toNat:Nat):Int)=x.gZ+1 by omega,show((rt.toNat:Nat):Int)=rt by have:=b7.o.2.1;omega,c6] at this;exact this
      have eL:bg.size<=1000:=by rw[<-c6,lM];simp[jd,jh]
      have ff:wrap64 (x.gI+(x.gZ+1).tmod 2)=x.gI+(x.gZ+1).tmod 2:=hJ _ (by
       have:=ih (show(0:Int)<=x.gZ+1 by omega) (b:=2)
       omega)
      obtain⟨cU,d6⟩:=nM (x.gI+(x.gZ+1).tmod 2);have e9:qQ x rt=⟨cU,bg⟩:=by unfold qQ;rw[d6,c6]
      obtain⟨D2,er,eI⟩:=Mq c2.o (qQ x rt);have bl:=gF (gK ff (gK d6 (gK e9 (gK eI eL))));have fI:=gF e8;clear ff d6 e9 eI eL e8 c6 a7 cj;have bJ:=jv.cells Y;have aP:Hid (∀y:jv Y,Below Y.heap.size Y y.w):=gF fun y=>y.h;refine sf 18 17 2 #[gy,gy,gy,gy,gy,gy,gy,gy,gy,gy,gy,gy,gy,gy,gy,gy,gy,hd,hd,hd] #[gy,gy,gy,gy,gy,gy,gy,gy,gy,gy,gy,gy,gy,gy,gy,gy,gy,gy,hd,hd] (fun C=>if C=11 then gz (iw (hE bg)) else if C=12 then gz (iw (hG #[gE ha cU, hE bg])) else if C=13 then gz (p8 1 [gE ha cU, hE bg] 80) else if C=14 then gz (nh D2 er) else gB) _ oP rfl oO oO oP oO rfl (fun _ _ _ _ e=>e) (sg _ _ rfl) ?_;simp only[hy,hL];refine LW.b 11 11 ?_;simp only[jC];repeat (go_big_quiet_step (fail))
      refine hh ?_;refine LW.z ?_ ?_;. intro U _;unfold ix;go_simp;exact qF (fI.o _)
      intro _;simp only[hj,gU]
      (try simp only[iw])
      refine LW.z ?_ ?_;. intro U _;exact pC ((by go_simp;first|rfl| (rw[bl.o.1,bl.o.2.1])| (simp only[bl.o.1,bl.o.2.1])))
      intro _;simp only[hj,gU]
      (try simp only[iw])
      refine LW.z ?_ ?_;. intro U ch;unfold ix;go_simp;exact⟨Below.one _ _,fun _=>undef,rfl,fun fC N=>(Bx.new U.w _ _).gD N⟩
      intro ee;simp only[hj,gU];refine LW.z ?_ ?_;. intro U ch;have eC:Bx U.w ee.lo #[gE ha cU, hE bg] 80:=(ch 13 (by decide+kernel)).get oO oO;unfold ix;simp only[p8];go_simp;have cE:=Bc _ _ [⟨cU,bg⟩] (gz ⟨ee.lo,0,gB⟩) 1 U.w (c2.o.below (aP.o _)) ((iV.js (S:=fun b=>b=ee.lo) (gO.bx eC)).mono fun b N=>by rw[N];exact eC.lt) (.inr ⟨_,rfl,oC,by simp[maxLen]⟩) (by intro y aC;rw[lx.1 aC];have:=bl.o.2.2.2.2;simp only;omega) (by have:=ek.o;simp only[j1,hR];omega);rw[<-bl.o.2.2.1,bl.o.2.2.2.1] at cE;exact qM cE
      intro ga;simp only[hj,gU,nh];refine LW.b 3 18 ?_;simp only[jC];repeat (go_big_quiet_step (fail))
      refine hh ?_;refine LW.done ?_;intro bI O;have eO:iF bI (ga.x 0) D2:=O.get 14 rfl rfl;have aU:=O.below;have bM:=eO;obtain⟨bY,bX,b0,bZ,fO⟩:=eO.agg;rw[fO] at bM |-;have aG:=ba.o.1.gD aU;obtain⟨W4,az⟩:=nM (mj bI K (gE ha D2.size) (hA bY D2.gG.length bX) (hA b0 D2.gH.length bZ) (gE ha D2.left));have ae:=ba.o.2;have aY:Only K bI W4:=by rw[<-az];exact tY
      have cY:Bx W4 K (dC D2 bY b0 bX bZ) 25:=by rw[<-az];exact aG.mj
      have bO:=ak.o.1.next aU;have aa:=gF (gK (bO.only aG (uQ _ _ _ _ _) aY (by rw[<-az];exact r8 bO.below ae.2.2.2.2) ae.1 ae.2.1 ae.2.2.1) (gK ((ak.o.2.1.gD aU).only aY fun i=>ae.2.2.2.1 i.symm) (gK (gK ak.o.2.2.1.1 ((ak.o.2.2.1.2.below aU).only aG oF aY)) ak.o.2.2.2)));have cm:=gF (bM.only aG (uQ _ _ _ _ _) aY);obtain⟨aQ,bW,dz⟩:=aG.c3;have c1:=gF cY;clear O aU bM aG ae aY cY bO R aD aR aZ bJ aP;refine iG 18 fun K hK=>?_;go_simp;refine hK _ _ ?_;clear hK K;refine iG 19 fun K hK=>?_;go_simp;refine hK _ _ ?_;clear hK K;refine kS ?_;unfold mj at az;rw[az];clear az aQ bW dz;have ep:Hid (gR x.gL (n5 x j.ws rt)=(D2,er)):=gF (eo.o _ _ bl.o.2.2.2.1);obtain⟨Y,rfl⟩:=nP W4;obtain⟨D,rfl⟩:=nP D2;obtain⟨F,rfl⟩:=nP bY;obtain⟨E,rfl⟩:=nP bX;obtain⟨t,rfl⟩:=nP b0;obtain⟨s,rfl⟩:=nP bZ;obtain⟨aQ,bW⟩:=c1.o.c2;unfold dC at aQ;cases bp:(er !=0) with
      | true=>
       have X:Hid (lN x l=({ x with gL:=D },er)):=gF (by
        rw[xd (D:=D) (er:=er) au.o a3.o b4.o b6.o c4.o c5.o (by rw[b7.o.1];exact ep.o),if_pos (by simpa using bp)])
       have bf:=aa.o.1.xN;have a2:=aa.o.1.xR;have cS:=aa.o.1.hw;obtain⟨We,ai⟩:=nM (mj Y h (gE ha D.size) (hA F D.gG.length E) (hA t D.gH.length s) (gE ha D.left));have aM:Only h Y We:=by rw[<-ai];exact tY
       have eg:Bx We h (ib D F t E s x.gI x.gJ x.gZ x.gN fo x.free.length fc) 33:=by rw[<-ai];have:=((((bf.set 0 (gE ha D.size)).set 1 (hA F D.gG.length E)).set 2 (hA t D.gH.length s)).set 3 (gE ha D.left));simpa[ib,Go.Proofs.YtlefmmhlpgmbjaaGreat.mj] using this
       have aO:=a2.only aM oM;have bm:Below w.heap.size w We:=by rw[<-ai];exact r8 aa.o.1.below oM
       have bn:iF We (hG (dC D F t E s)) D:=cm.o.only bf (kZ _ _ _ _ _ _ _ _ _ _ _ _ _ _ _) aM;obtain⟨Wf,f⟩:=nM (jr We (h+1) (gE ha D.size) (hA F D.gG.length E) (hA t D.gH.length s) (gE ha D.left) (gE ha x.gI) (gE ha x.gJ) (gE ha x.gZ) (gE ha x.gN) (hA fo x.free.length fc));have P:Bx Wf (h+1) (ib D F t E s x.gI x.gJ x.gZ x.gN fo x.free.length fc) 33:=by rw[<-f];exact aO.kh
       have q:Below w.heap.size w Wf:=by rw[<-f];exact mV bm oM
       have bD:iF Wf (hG (dC D F t E s)) D:=bn.only aO (kZ _ _ _ _ _ _ _ _ _ _ _ _ _ _ _) (by rw[<-f];exact Only.nine);have am:=gF (gK P (gK q bD));have cn:=gF (gK ai f);obtain⟨R,aD,fQ⟩:=bf.c3;unfold ib at R;obtain⟨dy,ed,dA⟩:=a2.c3;clear ai aM eg aO bm bn f P q bD bf a2 cS;go_wp2;obtain⟨H,I⟩:=cn.o;unfold mj at H;unfold jr lj at I;rw[H,I];have J:=am.o.1.cell;unfold ib at J;refine hf (v:= hI #[hG (ib D F t E s x.gI x.gJ x.gZ x.gN fo x.free.length fc), gE ha er]) (by simp[hn,hi,go_sem,J,ib]) rfl ?_;rw[<-a4.o,X.o];exact⟨_,rfl,⟨F,E,t,s,fo,fc,rfl,am.o.2.2,bj.o.2.2.1,bj.o.2.2.2.2.below am.o.2.1⟩,am.o.2.1⟩
      | false=>
       obtain rfl:er=0:=by simpa using bp
       have X:Hid (lN x l=(⟨D,x.gI,x.gJ,x.gZ+1,rt,FR⟩,0)):=gF (by
        rw[xd (D:=D) (er:=0) au.o a3.o b4.o b6.o c4.o c5.o (by rw[b7.o.1];exact ep.o),if_neg oC,b7.o.1,el.o])
       clear bp;have dk:=aa.o.2.1;have a2:=aa.o.1.xR;have cS:=aa.o.1.hw;have T:=aa.o.2.2.2;obtain⟨We,ai⟩:=nM (mj Y M (gE ha D.size) (hA F D.gG.length E) (hA t D.gH.length s) (gE ha D.left));have aM:Only M Y We:=by rw[<-ai];exact tY
       have aO:=a2.only aM fun i=>T.2.1 i.symm;have bm:Below w.heap.size w We:=by rw[<-ai];exact r8 aa.o.1.below T.2.2.2
       have bn:iF We (hG (dC D F t E s)) D:=cm.o.only dk (kZ _ _ _ _ _ _ _ _ _ _ _ _ _ _ _) aM;have eK:jQ We ad FR:=aa.o.2.2.1.2.only dk oF aM;obtain⟨Wf,f⟩:=nM (jr We (h+1) (gE ha D.size) (hA F D.gG.length E) (hA t D.gH.length s) (gE ha D.left) (gE ha x.gI) (gE ha x.gJ) (gE ha (x.gZ+1)) (gE ha rt) (hA ad FR.length ax));have P:Bx Wf (h+1) (ib D F t E s x.gI x.gJ (x.gZ+1) rt ad FR.length ax) 33:=by rw[<-f];exact aO.kh
       have q:Below w.heap.size w Wf:=by rw[<-f];exact mV bm oM
       have bD:iF Wf (hG (dC D F t E s)) D:=bn.only aO (kZ _ _ _ _ _ _ _ _ _ _ _ _ _ _ _) (by rw[<-f];exact Only.nine);have fE:jQ Wf ad FR:=eK.only aO oF (by rw[<-f];exact Only.nine);have am:=gF (gK P (gK q (gK bD fE)));have cn:=gF (gK ai f);obtain⟨aR,aZ,ca⟩:=dk.c3;obtain⟨dy,ed,dA⟩:=a2.c3;have fS:M≠h+1:=T.2.1;have gi:h+1≠M:=fun i=>fS i.symm;clear ai aM aO bm bn f P q bD fE dk a2 cS T eK;go_wp2;obtain⟨H,I⟩:=cn.o;unfold mj at H;unfold jr lj at I;rw[H,I];have J:=am.o.1.cell;unfold ib at J;refine hf (v:= hI #[hG (ib D F t E s x.gI x.gJ (x.gZ+1) rt ad FR.length ax), gE ha 0]) (by simp[hn,hi,go_sem,J,ib]) rfl ?_;rw[<-a4.o,X.o];exact⟨_,rfl,⟨F,E,t,s,ad,ax,rfl,am.o.2.2.1,aa.o.2.2.1.1,am.o.2.2.2⟩,am.o.2.1⟩
theorem Mr:(Tryz.prog.info? 71).map (fun i=>(i.zero,i.size,i.bytes))=gz (gz (hG #[.string .empty, hF hd, hF hd, .string .empty, .string .empty]),5,56):=oP
theorem Ms (l m:List ju):kU (l++m)=kU l++kU m:=by simp[kU]
theorem vh.at {gM:Nat} {l:List ju} (h:w.ownsRow gM 71 5 v l.length (kU l)): ∃o c,v= hA o l.length c/\jk o l.length c/\oI w o l:=by
 obtain⟨o,c,a,f,e,-⟩:=nC h;exact⟨o,c,a,f,e.mono fun _ b=>b.2⟩
structure oK (W:hq) (B lb ob:Nat) (l:List Kv) (lo:Option Addr) (lc:Nat) (o:Option Addr) (c:Nat) (out:List ju):Prop where
 xl:Bx W lb #[hA lo l.length lc] 41
 xo:Bx W ob #[hA o out.length c] 52
 own:W.ownsRow B 71 5 (hA o out.length c) out.length (kU out)
 pairs:gO (· <B) W lo (gV l)
 sl:jk lo l.length lc
 xp:B<=ob
 hB:B<=W.heap.size
abbrev qu (ob:Nat) (o:Option Addr) (n c:Nat):List Nat:=ob::(Value.slice o n c).ownBlock.toList
def ye (W:hq) (B lb ob:Nat) (l:List Kv) (lo:Option Addr) (lc:Nat) (o:Option Addr) (c:Nat) (out out':List ju) (e:Ending) (w':hq):Prop:=
 e= ht (hI #[])/\ ∃o' c',oK w' B lb ob l lo lc o' c' out'/\gS (qu ob o out.length c) W w'
theorem FN {b:Option Nat} (a:A.grownBy A' b):gS b.toList A A':=
 ⟨a.os,a.tape,a.output,a.size,fun e h i=>a.block e h fun f=>i (by rw[<-f];simp)⟩
theorem gO.iE {B:Nat} {o:Option Addr} {l:List h3} {L:List Nat} (h:gO (· <B) A o l) (n:gS L A A') (i: ∀y∈L,B<=y) (f:B<=A.heap.size):gO (· <B) A' o l:=by
 intro q m;obtain⟨a,r,e,j,b⟩:=h q m;refine⟨a,r,e,?_,b⟩;rw[cell_of_block (n.2.2.2.2 a (iU b f) fun p=>by have:=i a p;omega)];exact j
theorem FO (x:ju) (W:hq) (B lb ob:Nat) (l:List Kv) (lo:Option Addr) (lc:Nat) (o:Option Addr) (c:Nat) (out:List ju) (h:oK W B lb ob l lo lc o c out) (bn:out.length<=1000):
  hD gA 68 #[hG (o6 x).toArray, .pointer (gz ⟨lb,0,gB⟩), .pointer (gz ⟨ob,0,gB⟩)] W (ye W B lb ob l lo lc o c out (ln l out x)):=by
 obtain⟨a1,aW,aY,aZ,a0⟩:=info_parts Mr;have C:=gF (gK aW (gK aY (gK aZ a0)));clear aW aY aZ a0;obtain⟨bz,ar⟩:=nM (ye W B lb ob l lo lc o c out (ln l out x));rw[ar];have aa:=gF ar;clear ar;obtain⟨k1,F,G,j,f⟩:=x;show hD gA 68 #[hG #[hE k1, hF F, hF j, hE G, hE f], .pointer (gz ⟨lb,0,gB⟩), .pointer (gz ⟨ob,0,gB⟩)] W _;obtain⟨M,aS⟩:=nM W.heap.size;obtain⟨W0,au⟩:=nM (W.alloc (hM #[hE k1, hF F, hF j, hE G, hE f] 71));have aJ:Bx W0 M #[hE k1, hF F, hF j, hE G, hE f] 71:=by subst au aS;exact Bx.new W _ _
 have ac:Below W.heap.size W W0:=by subst au;exact Below.one W _
 have a8:=h.xl.gD ac;have aC:=Mm l lo lc k1 W0 (jS.below (show jS W lo l from h.pairs.mono fun b bj=>iU bj h.hB) ac) h.sl;obtain⟨⟨i,ag⟩,aB⟩: ∃r,ky l k1=r:=⟨_,rfl⟩;rw[aB] at aC;have aM:=gF aC;have O:=gF aB;have e:=gF h;have bv:=gF aS;have a':=gF ac;obtain⟨bf,bp⟩:=a8.c2;obtain⟨ao,aG⟩:=aJ.c2;clear aC aB h ac;go_enter func68,ntmps68;go_wp2_with fail;refine aM.o.mono ?_;rintro n bu ⟨rfl,av⟩;have aK:=aJ.gD av;clear bf bp ao aG a8 aJ au aM;have aQ:=iq a'.o av;obtain⟨w2,aD⟩:=nM ((bu.setCell ⟨M,3,gB⟩ (hE i)).setCell ⟨M,1,gB⟩ (hF ag));have a7:Bx w2 M #[hE k1, hF ag, hF j, hE i, hE f] 71:=by subst aD;have:=(aK.set 3 (hE i)).set 1 (hF ag);simpa using this
 have ad:Below W.heap.size W w2:=by subst aD;exact iT (b:=M) (iT (b:=M) aQ oM) oM
 have ah:=e.o.xo.gD ad;have az:=nD e.o.own ad;obtain⟨ao,aG,bA⟩:=aK.c3;obtain⟨ab,aH⟩:=ah.c2;have bi:=e.o;obtain⟨z,ay⟩:=nM out.length;rw[ay] at ab bn ah az;have E:=gF ay;have bw:=gF aD;have J:=gF ad;have aO:=gF ah;have aN:=gF a7;have am:=gF az;clear ay ad bi ah a7 az aQ av aK;go_wp2;clear ab aH;have a9:Hid (oI w2 o out):=gF (by
  have:=am.o;rw[<-E.o] at this;obtain⟨br,c',n,-,bs⟩:=vh.at this;obtain⟨rfl,rfl⟩:o=br/\c=c':=by simpa using n
  exact bs)
 go_loopw [17] (fun aE wr=> ∃(k:Nat),k<=z/\aE= gE ha k/\Hid ((out.take k).any (fun x=>decide (x.key=k1))=hd)/\Below w2.heap.size w2 wr) (fun aE _=>z - (intOf aE).toNat)
 case atStart=>exact⟨0,hl _,rfl,gF rfl,Below.refl _ _⟩
 case round=>
  obtain⟨k,bB,rfl,af,q⟩:=hrel;have ao:=(aN.o.gD q).cell;have aG:=(aN.o.gD q).lt
  by_cases bm:k<z
  .
   have ae:k<out.length:=by rw[E.o];exact bm
   obtain⟨b,bD,rfl,N,a2,a3,a4,a5,a6⟩:=a9.o.cell ae;have bb:=(q.cell N).trans a2;have bc:=(q.cell N).trans a3;have bd:=(q.cell N).trans a4;have H:=(q.cell N).trans a5;have be:=(q.cell N).trans a6;clear a2 a3 a4 a5 a6;have aA:(out.take (k+1)).any (fun x=>decide (x.key=k1))=decide (out[k].key=k1):=by rw[hg ae,List.any_append,af.o];simp
   have ax:out[k]∈out:=h6 ae;obtain⟨y,u⟩:=nM (out[k]);rw[u] at bb bc bd H be aA ax;have aL:=gF aA;have ba:=gF ax;have aU:=Below.one wr (hM #[hE y.key, hF y.lz, hF y.kp, hE y.old, hE y.new] 71);have aR:=iq q aU;have bC:b<wr.heap.size:=iU N q.size;have m:=gF aR;clear aA ax u ae af aU aR;cases g:(y.key.toList==k1.toList);.
    have aX:y.key≠k1:=fun n=>by rw[n] at g;simp at g
    have Q:Hid ((out.take (k+1)).any (fun x=>decide (x.key=k1))=hd):=gF (by rw[aL.o,decide_eq_false aX]);clear aL aX;go_wp2;go_roundw;case rel=>exact⟨k+1,oM,oQ,Q,m.o⟩
    case measure=>simp[intOf];omega
   have aV:y.key=k1:=oB (by simpa using g);have t:ln l out ⟨k1,F,G,j,f⟩=out:=by unfold ln;rw[if_pos (List.any_eq_true.2 ⟨y,ba.o,by simpa using aV⟩)]
   have D:=gF t;clear aV t;go_wp2;refine hf (v:= hI #[]) (by simp[hn,hW,go_sem]) rfl ?_;have t:=D.o;have aq:=m.o;have p:=iq J.o aq;rw[<-aa.o];rw[t];exact⟨rfl,_,_,⟨e.o.xl.gD p,e.o.xo.gD p,nD e.o.own p,e.o.pairs.below p,e.o.sl,e.o.xp,jU e.o.hB p.size⟩,(gS.refl _ W).ic p⟩
  have aT:out.any (fun x=>decide (x.key=k1))=false:=by rw[<-af.o,ho (by rw[E.o];omega)]
  have ak:=gF aT;have m:=gF q;clear aT af q;cases ap:ag
  case' false=>
   cases aP:j
   case' false=>
    subst ap aP;have D:Hid (ln l out ⟨k1,F,G,hd,f⟩=out):=gF (by
     unfold ln;rw[if_neg (by simpa using ak.o),if_neg];simp only[O.o];decide)
    go_wp2;refine kk (v:= hI #[]) (by simp[hn,hW,go_sem]) rfl ?_;have t:=D.o;have aq:=m.o;have p:=iq J.o aq;rw[<-aa.o];rw[t];exact⟨rfl,_,_,⟨e.o.xl.gD p,e.o.xo.gD p,nD e.o.own p,e.o.pairs.below p,e.o.sl,e.o.xp,jU e.o.hB p.size⟩,(gS.refl _ W).ic p⟩
   case' true=>
    subst ap aP;have D:Hid (ln l out ⟨k1,F,G,gy,f⟩=out++[⟨k1,hd,i,gy,f⟩]):=gF (by
     unfold ln;rw[if_neg (by simpa using ak.o),if_pos (by simp only[O.o];simp)];simp only[O.o])
    have I:=aO.o.gD m.o;have s:=nD am.o m.o;have T:=s.alloc (hM #[hE k1, hF hd, hF gy, hE i, hE f] 71);have Z:=I.alloc (hM #[hE k1, hF hd, hF gy, hE i, hE f] 71);have R:=m.o.alloc m.o.size (hM #[hE k1, hF hd, hF gy, hE i, hE f] 71);have ai:Hid (∀X∈[Value.string k1, hF hd, hF gy, hE i, hE f],X.oneCell'=gy):=gF (by intro X U;simp at U;rcases U with rfl|rfl|rfl|rfl|rfl<;>rfl)
    have aj:Hid (gO (· =wr.heap.size) (wr.alloc (hM #[hE k1, hF hd, hF gy, hE i, hE f] 71)) (gz ⟨wr.heap.size,0,gB⟩) [hE k1, hF hd, hF gy, hE i, hE f]):=gF (gO.bx (Bx.new wr #[hE k1, hF hd, hF gy, hE i, hE f] 71));have bo:B<=wr.heap.size:=by have:=e.o.hB;have:=J.o.size;have:=m.o.size;omega
    have al:=gF (iq J.o R);have P:=gF Z;have an:=gF T;obtain⟨ab,aH⟩:=I.c2;clear R I s Z;go_wp2_with (at_builtin;refine o8 rfl _ _ 52 rfl B 71 a1 _ 5 56 h4 C.o.1 C.o.2.1 C.o.2.2.1 C.o.2.2.2 rfl oF (.slice o z c) z (kU out) rfl T (gz ⟨wr.heap.size,0,gB⟩) 1 1 [.string k1, .bool hd, .bool gy, .string i, .string f] rfl (by intro n;cases n) rfl aj.o ai.o (by unfold maxLen;omega) oM oN ?_;intro bt aI s S;obtain⟨V,H,rfl⟩:=pD s;have Y:=P.o.grown S fun n=>nu an.o P.o oF n.symm;obtain⟨bg,bq,bh⟩:=Y.c3);refine kk (v:= .tuple #[]) (by simp[hn,hW,go_sem]) rfl ?_;have t:=D.o;rw[<-aa.o];rw[t];have hK:gS (qu ob o out.length c) W (aI.setCell ⟨ob,0,gB⟩ (.slice V (z+1) H)):=by have k1:gS (qu ob o out.length c) W (wr.alloc (.cells #[.string k1, .bool hd, .bool gy, .string i, .string f] 71)):=(gS.refl _ W).ic al.o;have aF:=FN S;refine(k1.trans' aF fun y u=> .inl ?_).set oC;rw[E.o];exact ka _ u
  rotate_left
  case' true=>
   subst ap;have D:Hid (ln l out ⟨k1,F,G,j,f⟩=out++[⟨k1,gy,i,j,f⟩]):=gF (by
    unfold ln;rw[if_neg (by simpa using ak.o),if_pos (by simp only[O.o];simp)];simp only[O.o])
   have I:=aO.o.gD m.o;have s:=nD am.o m.o;have T:=s.alloc (hM #[hE k1, hF gy, hF j, hE i, hE f] 71);have Z:=I.alloc (hM #[hE k1, hF gy, hF j, hE i, hE f] 71);have R:=m.o.alloc m.o.size (hM #[hE k1, hF gy, hF j, hE i, hE f] 71);have ai:Hid (∀X∈[Value.string k1, hF gy, hF j, hE i, hE f],X.oneCell'=gy):=gF (by intro X U;simp at U;rcases U with rfl|rfl|rfl|rfl|rfl<;>rfl)
   have aj:Hid (gO (· =wr.heap.size) (wr.alloc (hM #[hE k1, hF gy, hF j, hE i, hE f] 71)) (gz ⟨wr.heap.size,0,gB⟩) [hE k1, hF gy, hF j, hE i, hE f]):=gF (gO.bx (Bx.new wr #[hE k1, hF gy, hF j, hE i, hE f] 71));have bo:B<=wr.heap.size:=by have:=e.o.hB;have:=J.o.size;have:=m.o.size;omega
   have al:=gF (iq J.o R);have P:=gF Z;have an:=gF T;obtain⟨ab,aH⟩:=I.c2;clear R I s Z;go_wp2_with (at_builtin;refine o8 rfl _ _ 52 rfl B 71 a1 _ 5 56 h4 C.o.1 C.o.2.1 C.o.2.2.1 C.o.2.2.2 rfl oF (.slice o z c) z (kU out) rfl T (gz ⟨wr.heap.size,0,gB⟩) 1 1 [.string k1, .bool gy, .bool j, .string i, .string f] rfl (by intro n;cases n) rfl aj.o ai.o (by unfold maxLen;omega) oM oN ?_;intro bt aI s S;obtain⟨V,H,rfl⟩:=pD s;have Y:=P.o.grown S fun n=>nu an.o P.o oF n.symm;obtain⟨bg,bq,bh⟩:=Y.c3);refine kk (v:= .tuple #[]) (by simp[hn,hW,go_sem]) rfl ?_;have t:=D.o;rw[<-aa.o];rw[t];have hK:gS (qu ob o out.length c) W (aI.setCell ⟨ob,0,gB⟩ (.slice V (z+1) H)):=by have k1:gS (qu ob o out.length c) W (wr.alloc (.cells #[.string k1, .bool gy, .bool j, .string i, .string f] 71)):=(gS.refl _ W).ic al.o;have aF:=FN S;refine(k1.trans' aF fun y u=> .inl ?_).set oC;rw[E.o];exact ka _ u
  all_goals
   have bk: ∀y∈qu ob o out.length c,B<=y:=by intro y u;rcases j4.1 u with rfl|u;exact e.o.xp;exact(e.o.own.lt y (by simpa using u)).1
   have bl:lb∉qu ob o out.length c:=by intro aw;rcases j4.1 aw with n|aw;exact absurd n (uR e.o.xl e.o.xo oF);exact nu e.o.own e.o.xl oF (by simpa using aw)
   refine⟨rfl,V,H,⟨hK.bx e.o.xl bl,?_,?_,e.o.pairs.iE hK bk e.o.hB,e.o.sl,e.o.xp,jU e.o.hB hK.2.2.2.1⟩,hK⟩;rw[iI,E.o];have:=Y.set 0 (hA V (z+1) H);simpa using this;rw[iI,E.o,Ms];exact oX s (a:=⟨ob,0,gB⟩) (nu s Y oF) _
end Go.Proofs.YtlefmmhlpgmbjaaGreat
namespace Go.Proofs
open Go.Shelf
def l_sortC_ren:Go.Shelf.Ren:=⟨fun|6=>69|15=>117|14=>116|28=>157|29=>158|20=>149|21=>150|22=>151|23=>152|24=>153|25=>154|26=>155|27=>156|46=>183|47=>184|48=>185|49=>186|50=>187|57=>203|n=>n,fun|22=>52|24=>71|25=>115|3=>3|39=>158|0=>0|53=>203|55=>206|4=>4|46=>215|45=>214|50=>154|5=>5|9=>9|66=>243|70=>247|76=>260|77=>91|n=>n,fun|n=>n⟩
theorem l_sortC:Go.Proofs.SlLaysF0.n6 gA l_sortC_ren:={
 mixed:=by kernel_rfl
 f6:=⟨Tryz.f69.name,by decide,Tryz.func69.trans (congrArg gz (by kernel_rfl))⟩
 f14:=⟨Tryz.f116.name,by decide,Tryz.func116.trans (congrArg gz (by kernel_rfl))⟩
 f15:=Tryz.func117.trans (congrArg gz (by kernel_rfl))
 f20:=⟨Tryz.f149.name,by decide,Tryz.func149.trans (congrArg gz (by kernel_rfl))⟩
 f21:=⟨Tryz.f150.name,by decide,Tryz.func150.trans (congrArg gz (by kernel_rfl))⟩
 f22:=⟨Tryz.f151.name,by decide,Tryz.func151.trans (congrArg gz (by kernel_rfl))⟩
 f23:=⟨Tryz.f152.name,by decide,Tryz.func152.trans (congrArg gz (by kernel_rfl))⟩
 f24:=⟨Tryz.f153.name,by decide,Tryz.func153.trans (congrArg gz (by kernel_rfl))⟩
 f25:=⟨Tryz.f154.name,by decide,Tryz.func154.trans (congrArg gz (by kernel_rfl))⟩
 f26:=⟨Tryz.f155.name,by decide,Tryz.func155.trans (congrArg gz (by kernel_rfl))⟩
 f27:=⟨Tryz.f156.name,by decide,Tryz.func156.trans (congrArg gz (by kernel_rfl))⟩
 f28:=Tryz.func157.trans (congrArg gz (by kernel_rfl))
 f29:=Tryz.func158.trans (congrArg gz (by kernel_rfl))
 f46:=⟨Tryz.f183.name,by decide,Tryz.func183.trans (congrArg gz (by kernel_rfl))⟩
 f47:=Tryz.func184.trans (congrArg gz (by kernel_rfl))
 f48:=Tryz.func185.trans (congrArg gz (by kernel_rfl))
 f49:=⟨Tryz.f186.name,by decide,Tryz.func186.trans (congrArg gz (by kernel_rfl))⟩
 f50:=⟨Tryz.f187.name,by decide,Tryz.func187.trans (congrArg gz (by kernel_rfl))⟩
 f57:=⟨Tryz.f203.name,by decide,Tryz.func203.trans (congrArg gz (by kernel_rfl))⟩
 t0:=underlying0
 a0:=isAgg0
 z0:=sizeOf0
 v0:=zeroValue0
 t3:=underlying3
 a3:=isAgg3
 z3:=sizeOf3
 v3:=zeroValue3
 t4:=underlying4
 a4:=isAgg4
 z4:=sizeOf4
 v4:=zeroValue4
 t5:=underlying5
 a5:=isAgg5
 z5:=sizeOf5
 v5:=zeroValue5
 t9:=underlying9
 a9:=isAgg9
 z9:=sizeOf9
 v9:=zeroValue9
 t22:=h4
 a22:=isAgg52
 z22:=sizeOf52
 v22:=zeroValue52
 t25:=underlying115
 a25:=isAgg115
 z25:=sizeOf115
 v25:=zeroValue115
 t39:=underlying158
 a39:=isAgg158
 z39:=sizeOf158
 v39:=zeroValue158
 t45:=underlying214
 a45:=isAgg214
 z45:=sizeOf214
 v45:=zeroValue214
 t46:=underlying215
 a46:=isAgg215
 z46:=sizeOf215
 v46:=zeroValue215
 t50:=underlying154
 a50:=isAgg154
 z50:=sizeOf154
 v50:=zeroValue154
 t53:=underlying203
 a53:=isAgg203
 z53:=sizeOf203
 v53:=zeroValue203
 t55:=underlying206
 a55:=isAgg206
 z55:=sizeOf206
 v55:=zeroValue206
 t66:=underlying243
 a66:=isAgg243
 z66:=sizeOf243
 v66:=zeroValue243
 t70:=underlying247
 a70:=isAgg247
 z70:=sizeOf247
 v70:=zeroValue247
 t76:=underlying260
 a76:=isAgg260
 z76:=sizeOf260
 v76:=zeroValue260
 t77:=underlying91
 a77:=isAgg91
 z77:=sizeOf91
 v77:=zeroValue91 }
end Go.Proofs
namespace Go.Proofs.YtlefmmhlpgmbjaaGreat
open Go.RowKit Go.Shelf Go.Sort Go.Lib
variable {α:Type}{k gM:Nat}{w:hq}{v:h3}
theorem FP [Inhabited α] {enc:α->List h3} (f: ∀x,(enc x).length=k) (l:List α):(flatK enc k l.toArray).toList=(l.map enc).flatten:=by
 have n: ∀x∈l.map enc,x.length=k:=by intro x s;obtain⟨t,_,rfl⟩:=List.mem_map.1 s;exact f t
 have u:(l.map enc).flatten.length=l.length * k:=by rw[xA n];simp
 apply kl;intro j
 by_cases a:j<l.length * k
 have m:0<k:=by rcases Nat.eq_zero_or_pos k with b|b;rw[b] at a;simp at a;exact b
 have e:j<l.toArray.size * k:=by simpa using a
 rw[hP,hr (by rw[hS];exact e), <-getElem!_pos (flatK enc k l.toArray) j (by rw[hS];exact e),get_flatK _ _ _ _ e];have p:j / k<l.length:=(Nat.div_lt_iff_lt_mul m).2 a;have h:j % k<k:=Nat.mod_lt _ m;have i:=kL n (j / k) (j % k) h;have r:j / k * k+j % k=j:=by rw[Nat.mul_comm];exact Nat.div_add_mod j k
 rw[r] at i;rw[i,List.getElem?_map,iS p];simp only[hz,Option.bind_some];have q:(l.toArray[j / k]!:α)=l[j / k]:=by rw[getElem!_pos _ _ (by simpa using p)];simp
 rw[q,iS (by rw[f];exact h),getElem!_pos _ _ (by rw[f];exact h)];rw[hU oN,hU oM]
theorem Mt [Inhabited α] {enc:α->List h3} (d:Array α) (w:hq) (a h n:Nat) (i:Array Obj) (j:Nat) (f:j<w.heap.size) (e:j≠a):(sortWorldK enc k w a h n d i).heap[j]?=w.heap[j]?:=by
 unfold sortWorldK;rw[heap_grow_old _ _ (by rw[ke];exact f)];unfold putRowK putRow mapBlock;simp only[j8];rw[if_neg fun b=>e b.symm];rfl
theorem Mu [Inhabited α] {enc:α->List h3} (d:Array α) (w:hq) (a n:Nat) (q:Array Obj) {b:Array h3} {e:TypeId} (i:w.heap[a]?=gz (hM b e (0,0))):
  ∃h,(sortWorldK enc k w a 0 n d q).heap[a]?=gz (hM h e (0,0))/\h.size=b.size/\(d.size * k<=b.size->h.toList.take (d.size * k)=(flatK enc k d).toList):=by
 have p:a<w.heap.size:=(h7.1 i).1;refine⟨putCells id 0 (flatK enc k d) b,?_,by simp[putCells],fun r=>?_⟩;unfold sortWorldK;rw[heap_grow_old _ _ (by rw[ke];exact p)];unfold putRowK putRow mapBlock;simp only[j8];rw[if_pos trivial];show Option.map _ w.heap[a]?=_;rw[i];rfl;apply kl;intro j;rw[kc]
 by_cases f:j<d.size * k
 rw[if_pos f];have m:j<b.size:=oM
 simp only[putCells,hP,Array.getElem?_mapIdx,hS,hl,true_and,Nat.zero_add,Nat.sub_zero,id];rw[hr m,hz,if_pos f,getElem!_pos _ _ (by rw[hS];exact f),hr (by rw[hS];exact f)];rw[if_neg f,hU oN]
theorem Mv {ρ:Ren} (L:SlLaysF0.n6 gA ρ) [Inhabited α] (k:Nat) (V: ∀w,(isAgg (ρ.t 24)).run gA w= .ok gy w) (ax: ∀w,(Go.sizeOf (ρ.t 24)).run gA w= .ok k w) (enc:α->List h3) (n: ∀x,(enc x).length=k) (ac: ∀x,∀v∈enc x,v.oneCell'=gy)
  (j:α->α->Int) (ae:SWO (ltOf j)) (g:Nat) (r:Array h3) (ab: ∀args w,(callFunc g args).run gA w= .ok (.enter g args) w)
  (ai: ∀(W:hq) (x y:α),hD gA g (#[hG (enc x).toArray, hG (enc y).toArray]++r) W fun e w'=>e= ht (gE ha (j x y))/\ ∃q av,w'=grow (W.drewN q) av)
 {t:TypeId} {l:List α} (h:w.ownsRow gM t k v l.length (l.map enc).flatten) (ag:l.length<4611686018427387904):
  hD gA (ρ.f 6) #[v, .func (.func g) #[] r] w fun e w'=>e= ht (hI #[])/\ ∃F:List α,F.Perm l/\F.Pairwise (fun x y=>ltOf j y x=hd)/\w'.ownsRow gM t k v l.length (F.map enc).flatten/\w.grownBy w' v.ownBlock:=by
 rcases h.2 with⟨rfl,P⟩|⟨i,I,J,rfl,af,C,R,ah,S,ar⟩;refine(AnyF.slices_SortFunc_none { L with } gB 0 _ w).mono ?_ |> (by rw[P];exact ·);rintro e w' ⟨rfl,rfl⟩;have:l=[]:=hQ P;subst this;exact⟨rfl,[],List.Perm.refl _,List.Pairwise.nil,by simpa using h,⟨rfl,rfl,rfl,hY _,fun _ _ _=>rfl⟩⟩;have an:i<w.heap.size:=(h7.1 C).1;have p:l.toArray.size=l.length:=oC
 have ad:HoldsK enc k w i 0 l.toArray:=by
  intro a b;rw[hS] at b;have D:a<l.length * k:=by simpa using b
  have M:Bx w i J t:=C;rw[Nat.zero_add,M.cell,M.free];refine⟨?_,rfl⟩;have s:J.toList[a]?=(l.map enc).flatten[a]?:=by rw[<-ar,kc,if_pos D]
  have u:=FP n l;rw[<-hP,s, <-u,hP,id,hr (by rw[hS];exact b),getElem!_pos _ _ (by rw[hS];exact b)]
 have N:=AnyQ.slices_SortFunc L k V ax enc n ac j ae g r i 0 I l.toArray w ab (fun m G ay _ x y=>ai _ x y) ad an (by rw[p];exact ag);rw[p] at N;refine Calls.mono N ?_;rintro e w' ⟨rfl,d',T,G,ap,aq,rfl⟩;obtain⟨aw,az,U⟩:=ap;have z:d'.size=l.length:=by rw[aw,p]
 obtain⟨aa,X,Y,H⟩:=Mu (enc:=enc) (k:=k) d' w i T G C;have O:=FP n d'.toList;rw[Array.toArray_toList] at O;rw[z,O] at H;have Z:=H (by rw[S];exact Nat.mul_le_mul_right _ R);have aj:(d'.toList.map enc).flatten.length=l.length * k:=by rw[xA (m:=k) (by intro x au;obtain⟨y,_,rfl⟩:=List.mem_map.1 au;exact n y)];simp[z]
 refine⟨rfl,d'.toList,?_,?_,⟨aj, .inr ⟨i,I,aa,rfl,af,X,R,ah,by rw[Y];exact S,Z⟩⟩,⟨rfl,rfl,rfl,?_,fun a b ao=>Mt _ w i 0 T G a b fun e=>ao (by rw[e];rfl)⟩⟩;have s:d'.extract 0 l.length=d':=by rw[<-z];simp
 have u:l.toArray.extract 0 l.length=l.toArray:=by rw[<-p];simp
 rw[s,u] at U;simpa using U;rw[List.pairwise_iff_getElem];intro E a ak b am;have al:E<d'.size:=by simpa using ak
 have D:a<d'.size:=by simpa using b
 have:=aq E a (hl _) am oM;rw[getElem!_pos d' E al,getElem!_pos d' a D] at this;simpa using this;unfold sortWorldK;rw[size_grow,ke];exact Nat.le_add_right _ _
theorem zS (a b:ByteArray):decide (mO a b<0)=iB a b:=by
 have i: ∀h:ByteArray,h.toList=h.data.toList:=fun h=>ByteArray.toList_eq h;unfold mO iB;rw[i,i];rcases za a.data.toList b.data.toList with⟨e,f⟩|⟨e,f⟩|⟨e,f⟩;rw[e,f];rfl;rw[e,f,uH];rfl;rw[e];cases j:Go.Op.bytesLess a.data.toList b.data.toList;rfl;have:=yQ j f;rw[uH] at this;cases this
theorem Mw (key:α->ByteArray):SWO (ltOf fun x y=>mO (key x) (key y)) where
 irrefl x:=by show decide _=_;rw[zS];exact tB _
 trans x y z a h2:=by have a:decide (mO (key x) (key y)<0)=true:=a;have h2:decide (mO (key y) (key z)<0)=true:=h2;show decide _=_;rw[zS] at *;exact r6 a h2
 ntrans x y z a h2:=by
  have a:decide (mO (key x) (key y)<0)=false:=a;have h2:decide (mO (key y) (key z)<0)=false:=h2;show decide _=_;rw[zS] at *;cases b:iB (key x) (key z);. rfl
  .
   cases g:iB (key y) (key x);. have:=tC a g;rw[this] at b;rw[b] at h2;cases h2
   . have:=r6 g b;rw[this] at h2;cases h2
theorem Mx {key:α->ByteArray} {l:List α} (h:l.Pairwise fun x y=>ltOf (fun x y=>mO (key x) (key y)) y x=hd) (b:(l.map key).Nodup):si key l:=by
 have e:l.Pairwise fun x y=>key x≠key y:=by have:=b;unfold List.Nodup at this;rwa[List.pairwise_map] at this
 refine(h.and e).imp fun {x y} ⟨a,h2⟩=>?_;have a:decide (mO (key y) (key x)<0)=false:=a;rw[zS] at a;cases g:iB (key x) (key y);exact absurd (tC g a) h2;rfl
theorem My (x y:ju) (w:hq):hD gA 70 #[hG (o6 x).toArray, hG (o6 y).toArray] w fun e w'=>e= ht (gE ha (mO x.key y.key))/\ ∃q os',w'=grow (w.drewN q) os':=by
 obtain⟨a,f,i,m,p⟩:=x;obtain⟨b,h,j,n,r⟩:=y;have s:(w.alloc (hM #[hE a, hF f, hF m, hE i, hE p] 71)).alloc (hM #[hE b, hF h, hF n, hE j, hE r] 71)=grow (w.drewN 0) #[hM #[hE a, hF f, hF m, hE i, hE p] 71, hM #[hE b, hF h, hF n, hE j, hE r] 71]:=by rw[alloc_eq_grow,alloc_eq_grow,grow_grow];rfl
 show hD gA 70 #[hG #[hE a, hF f, hF m, hE i, hE p], hG #[hE b, hF h, hF n, hE j, hE r]] w _;have u:=strings_Compare a b;have t:=gF s;clear s;go_enter func70,ntmps70;go_wp2_with fail;refine(u _).mono ?_;rintro e z ⟨rfl,rfl⟩;go_wp2;go_ret;exact⟨rfl,0,_,t.o⟩
theorem Mz (x:ju): ∀u∈o6 x,u.oneCell'=true:=by
 intro u a;simp only[o6,j4,List.not_mem_nil,or_false] at a;rcases a with rfl|rfl|rfl|rfl|rfl<;>rfl
theorem MA {l:List ju} (h:w.ownsRow gM 71 5 v l.length (kU l)) (t:l.length<1000000) (q:(l.map ju.key).Nodup):
  hD gA 69 #[v, .func (.func 70) #[] #[]] w fun e w'=>e= ht (hI #[])/\ ∃m,m.Perm l/\si ju.key m/\w'.ownsRow gM 71 5 v m.length (kU m)/\w.grownBy w' v.ownBlock:=by
 have j:=Mv l_sortC 5 Mn Mo o6 (fun _=>rfl) Mz (fun x b=>mO x.key b.key) (Mw ju.key) 70 #[] (by intro args W;rfl) (fun W x b=>My x b W) (l:=l) h oM;refine Calls.mono j ?_;rintro e w' ⟨rfl,i,a,s,f,n⟩;have r:(i.map ju.key).Nodup:=(a.map ju.key).nodup_iff.2 q;have p:=a.length_eq;exact⟨rfl,i,a,Mx s r,by rw[<-p] at f;exact f,n⟩
open Go.RowKit
variable {l ps L:List Kv}{out:List ju}{k:Nat}{d:ik}{gI gJ g:Int}{x:Kv}
def mq (l:List Kv) (out:List ju) (ps:List Kv):List ju:=ps.foldl (fun o p=>ln l o (rz p)) out
def mL (l:List Kv) (out:List ju) (ds:List ByteArray):List ju:=ds.foldl (fun o k=>ln l o (rA k)) out
theorem MB (h:k<ps.length):mq l out (ps.take (k+1))=ln l (mq l out (ps.take k)) (rz ps[k]):=by
 unfold mq;rw[hg h,h5];rfl
theorem MC {a:List ByteArray} (h:k<a.length):mL l out (a.take (k+1))=ln l (mL l out (a.take k)) (rA a[k]):=by
 unfold mL;rw[hg h,h5];rfl
theorem FQ (l:List Kv) (out:List ju) (c:ju):(ln l out c).length<=out.length+1:=by
 unfold ln;split;omega;split;simp;omega
theorem B7 (l:List Kv): ∀(ps:List Kv) (out:List ju),(mq l out ps).length<=out.length+ps.length
 | [],out=>by simp[mq]
 | p::ps,out=>by have a:=B7 l ps (ln l out (rz p));have b:=FQ l out (rz p);unfold mq at a |-;rw[hT,j1];omega
theorem FT (l:List Kv): ∀(a:List ByteArray) (out:List ju),(mL l out a).length<=out.length+a.length
 | [],out=>by simp[mL]
 | p::a,out=>by have b:=FT l a (ln l out (rA p));have e:=FQ l out (rA p);unfold mL at b |-;rw[hT,j1];omega
theorem MD (a:kP) (l:List Kv):pU a l=mL l (mq l [] a.k7) a.lA:=rfl
theorem wB {a:kP} (h:lF a=gy):a.nS.length<=12/\a.k7.length<=12/\a.lA.length<=12/\a.gP.length<=40:=by
 unfold lF uw at h;simp only[Bool.and_eq_true,decide_eq_true_eq] at h;obtain⟨_,_,b,e,f,i⟩:=h;omega
section
variable {W W':hq} {B lb ob:Nat} {l:List Kv} {lo:Option Addr} {lc:Nat} {o:Option Addr} {c:Nat} {out:List ju}
theorem oK.below (h:oK W B lb ob l lo lc o c out) (a:Below W.heap.size W W'):oK W' B lb ob l lo lc o c out:=
 ⟨h.xl.gD a,h.xo.gD a,nD h.own a,h.pairs.iE ((gS.refl [] W).ic a) oC h.hB,h.sl,h.xp,jU h.hB a.size⟩
theorem oK.ge (h:oK W B lb ob l lo lc o c out): ∀y∈qu ob o out.length c,B<=y:=by
 intro y a;rcases j4.1 a with rfl|a;exact h.xp;exact(h.own.lt y (by simpa using a)).1
theorem oK.vk (h:oK W B lb ob l lo lc o c out) {b:Nat} {f:Array h3} {t:TypeId} (e:Bx W b f t) (j:t≠52) (m:71≠t):b∉qu ob o out.length c:=by
 intro a;rcases j4.1 a with i|a;exact absurd i (uR e h.xo j);exact nu h.own e m (by simpa using a)
end
theorem zT (a:kP) (z po C N:Option Addr) (y pc G M:Nat) (l:List Kv) (lo:Option Addr) (lc:Nat) (w:hq) (aM:ur w a z po C N y pc G M) (ba:lF a=gy) (aR:jS w lo l) (aT:jk lo l.length lc):
  hD gA 35 #[hG (jG a z po C N y pc G M), hA lo l.length lc] w fun e w'=> ∃o c,e= ht (hA o (nx a l).length c)/\jk o (nx a l).length c/\oI w' o (nx a l)/\Below w.heap.size w w':=by
 obtain⟨bj,bk,bl,-⟩:=wB ba;obtain⟨b,H⟩:=nM w.heap.size;obtain⟨R,Y⟩:=nM (nx a l);rw[Y];obtain⟨W0,Z⟩:=nM ((w.alloc (hM (jG a z po C N y pc G M) 54)).alloc (hM #[hA lo l.length lc] 41));have aD:Bx W0 b (jG a z po C N y pc G M) 54:=by subst Z H;exact(Bx.new w _ _).alloc _
 have a2:Bx W0 (b+1) #[hA lo l.length lc] 41:=by subst Z H;exact Bx.ir _ _ _ _ oC
 have ai:Below w.heap.size w W0:=by subst Z;exact(Below.one w _).alloc oC _
 have aX:W0.heap.size=b+2:=by subst Z H;simp
 obtain⟨p,aA⟩:=aD.c2;have ag:=gF aM;have ah:=gF Y;have aE:=gF (gK aR aT);clear Y aM aR aT;go_enter func35,ntmps35;cases aY:(a.kind !=1);rotate_left;.
  have E:a.kind≠1:=by simpa using aY
  have Y:R=a.nS:=by rw[<-ah.o];unfold nx;rw[if_pos E]
  clear ah;go_wp2;go_ret;rw[Y];exact⟨z,y,rfl,ag.o.tM,ag.o.nS.below ai,ai⟩
 .
  have E:a.kind=1:=by simpa using aY
  have aF:Hid (R=nO (pU a l)):=gF (by rw[<-ah.o];unfold nx;rw[if_neg (by simpa using E)]);clear ah E;have a3:Bx (W0.alloc (hM #[hA gB 0 0] 52)) (b+2) #[hA gB 0 0] 52:=Bx.ir _ _ _ _ aX.symm;have q:=Below.one W0 (hM #[hA gB 0 0] 52);have D:=iq ai q;have m:=aD.gD q;have f:oK (W0.alloc (hM #[hA gB 0 0] 52)) b (b+1) (b+2) l lo lc gB 0 (mq l [] (a.k7.take 0)):=by refine⟨a2.gD q,a3,kb _ _ _ _,?_,aE.o.2,oM,by have:=D.size;omega⟩;rw[<-H];exact gO.below aE.o.1 D
  clear a3 q ai aD a2;go_wp2;clear p aA;generalize (W0.alloc (hM #[hA gB 0 0] 52))=W1 at *;clear Z aX
  go_loopw [20] (fun F wr=> ∃(k:Nat) (o:Option Addr) (c:Nat),k<=a.k7.length/\F= gE ha k/\oK wr b (b+1) (b+2) l lo lc o c (mq l [] (a.k7.take k))/\Below w.heap.size w wr/\Bx wr b (jG a z po C N y pc G M) 54) (fun F _=>a.k7.length - (intOf F).toNat)
  case atStart=>exact⟨0,gB,0,hl _,rfl,f,D,m⟩
  case round=>
   clear f D m;obtain⟨k,o,c,E,rfl,f,i,m⟩:=hrel
   by_cases J:k<a.k7.length
   .
    have P:Hid (jS w po a.k7):=gF ag.o.k7;obtain⟨u,bg,rfl,I,ae,a0⟩:=P.o.cell J;have p:=(i.cell I).trans ae;have aJ:=(i.cell I).trans a0;have aB:u<wr.heap.size:=iU I i.size;have s:=gF (MB (l:=l) (out:=[]) J);have ac:=B7 l (a.k7.take k) [];rw[List.length_take,hR] at ac;obtain⟨am,X⟩:=nM (mq l [] (a.k7.take k));rw[X] at f s ac;obtain⟨⟨ak,a1⟩,ad⟩: ∃x,a.k7[k]=x:=⟨_,rfl⟩;rw[ad] at p aJ s;have q:=Below.one wr (hM #[hE ak, hE a1] 77);have aq:=f.below q;have D:=iq i q;have a5:=m.gD q;have aa:=FO (rz (ak,a1)) _ b (b+1) (b+2) l lo lc o c am aq oM;have U:=gF aa;have h:=gF aq;have j:=gF D;have n:=gF a5;clear ae a0 X ad q f i m aa aq D a5 P;go_wp2_with fail;refine U.o.mono ?_;rintro e bi ⟨rfl,aC,ap,V,hK⟩;have r:=hK.below j.o j.o.size (fun u av=>by rw[H];exact h.o.ge u av);have af:=hK.bx n.o (h.o.vk n.o oF oF);have an:=gF V;have O:=gF r;have ao:=gF af;clear V r af hK U h j n p aJ aB;go_wp2;go_roundw;case rel=>exact⟨k+1,aC,ap,oM,oQ,by rw[s.o];exact an.o,O.o,ao.o⟩
    case measure=>simp[intOf];omega
   have ab:mq l [] (a.k7.take k)=mq l [] a.k7:=by rw[ho oM]
   have ac:=B7 l a.k7 [];rw[hR] at ac;rw[ab] at f;obtain⟨t,ar⟩:=nM (mq l [] a.k7);rw[ar] at f ac;have aW:pU a l=mL l t a.lA:=by rw[MD,ar]
   have aG:=gF aW;have h:=gF (show oK wr b (b+1) (b+2) l lo lc o c (mL l t (a.lA.take 0)) from f);have j:=gF i;have n:=gF m;obtain⟨p,aA⟩:=m.c2;clear ab ar aW f i m E;go_wp2;clear p aA J
   go_loopw [35] (fun F wr=> ∃(k:Nat) (o:Option Addr) (c:Nat),k<=a.lA.length/\F= gE ha k/\oK wr b (b+1) (b+2) l lo lc o c (mL l t (a.lA.take k))/\Below w.heap.size w wr/\Bx wr b (jG a z po C N y pc G M) 54) (fun F _=>a.lA.length - (intOf F).toNat)
   case atStart=>exact⟨0,o,c,hl _,rfl,h.o,j.o,n.o⟩
   case round=>
    clear h j n;obtain⟨k,o,c,E,rfl,f,i,m⟩:=hrel
    by_cases J:k<a.lA.length
    .
     have P:Hid (mW (· <w.heap.size) w C a.lA):=gF ag.o.lA;obtain⟨u,bg,rfl,ae,I⟩:=P.o k J;have p:=(i.cell I).trans ae;have aB:u<wr.heap.size:=iU I i.size;have s:=gF (MC (l:=l) (out:=t) J);have aQ:=FT l (a.lA.take k) t;rw[List.length_take] at aQ;obtain⟨am,X⟩:=nM (mL l t (a.lA.take k));rw[X] at f s aQ;obtain⟨ak,ad⟩:=nM (a.lA[k]);rw[ad] at p s;have aa:=FO (rA ak) wr b (b+1) (b+2) l lo lc o c am f oM;have U:=gF aa;have h:=gF f;have j:=gF i;have n:=gF m;clear ae X ad f i m aa P;go_wp2_with fail;refine U.o.mono ?_;rintro e bi ⟨rfl,aC,ap,V,hK⟩;have r:=hK.below j.o j.o.size (fun u av=>by rw[H];exact h.o.ge u av);have af:=hK.bx n.o (h.o.vk n.o oF oF);have an:=gF V;have O:=gF r;have ao:=gF af;clear V r af hK U h j n p aB;go_wp2;go_roundw;case rel=>exact⟨k+1,aC,ap,oM,oQ,by rw[s.o];exact an.o,O.o,ao.o⟩
     case measure=>simp[intOf];omega
    have ab:mL l t (a.lA.take k)=pU a l:=by rw[aG.o,ho oM]
    rw[ab] at f;obtain⟨aj,-,aS⟩:=FH a l;obtain⟨T,au⟩:=nM (pU a l);have aO:R=nO T:=by rw[aF.o,au]
    rw[au] at f aj aS;have az:=MA f.own oM aj;obtain⟨be,ax⟩:=nM T.length;have al:=f.xo;have bb:=f.own;rw[ax] at az al;have aH:=gF az;have S:=gF (gK aO (gK aj ax));have h:=gF f;have j:=gF i;obtain⟨aK,aZ⟩:=al.c2;have a7:=gF al;clear ab au aO aj aS ax az f i al bb aG aF;go_wp2_with fail;refine aH.o.mono ?_;rintro e bm ⟨rfl,aI,ay,aP,aV,aw⟩;have aN:aI=R:=by rw[S.o.1];exact Me S.o.2.1 ay aP
    have r:=j.o.grown aw j.o.size (fun bh e=>by
     have:=h.o.own.lt bh (by rw[S.o.2.2];exact e.symm▸rfl)
     omega)
    have aU:be=aI.length:=by rw[<-S.o.2.2];exact ay.length_eq.symm
    have a4:=a7.o.grown aw (fun e=>nu h.o.own h.o.xo oF (by rw[S.o.2.2];exact e.symm));have a6:=gF (gK aN (gK aU aV));have O:=gF r;clear aN r aU aV ay aP aw aK aZ aH;obtain⟨aK,aZ⟩:=a4.c2;clear a4;go_wp2;go_ret;obtain⟨a8,a9,aL⟩:=a6.o;subst a8;rw[a9] at aL |-;obtain⟨bf,c',a',bd,bc⟩:=vh.at aL;obtain⟨rfl,rfl⟩:o=bf/\c=c':=by simpa using a'
    exact⟨o,c,rfl,bd,bc,O.o⟩
theorem ME (b:iQ d gI gJ=0) (f:d.left= -1):(kY d gI gJ).2=0:=by
 have e:=xj b;unfold kY;rw[if_neg (by simp[b])];refine(BO _ e.1 (fun o a=>?_) f).1;rcases j4.1 a with rfl|a;exact⟨oM,oM,by rw[lM,show jg []=List.replicate 512 0 from rfl,List.length_replicate];omega⟩;rcases j4.1 a with rfl|a;exact⟨oM,oM,by rw[lM,tH oF];omega⟩;rw[lx.1 a];trivial
theorem vo (a b:UInt8):iB ⟨#[a]⟩ ⟨#[b]⟩=decide (a<b):=by simp[iB,ByteArray.toList_eq,Go.Op.bytesLess]
abbrev kA:ByteArray:=⟨#[97]⟩
abbrev kB:ByteArray:=⟨#[98]⟩
abbrev kC:ByteArray:=⟨#[99]⟩
abbrev kD:ByteArray:=⟨#[100]⟩
abbrev j9 (k:ByteArray):Kv:=(k,gx)
theorem FU (h:iN ps x=L) (a:L.length<=3):ku (gz (kR ps)) x=kR L:=by
 have:jB x (kR ps)=(kR L,gB):=by rw[vZ (n:=kR ps) rfl, <-wa a, <-h];rfl
 unfold ku;simp only;rw[this]
theorem MF (h:iN ps x=L) (a:3<L.length):ku (gz (kR ps)) x=kt [kR (L.take 2),kR (L.drop 2)]:=by
 have:jB x (kR ps)=(kR (L.take 2),gz (kR (L.drop 2))):=by rw[vZ (n:=kR ps) rfl, <-xK a, <-h];rfl
 unfold ku;simp only;rw[this]
theorem MG:iN [j9 kA] (j9 kB)=[j9 kA,j9 kB]:=by simp[iN,vo]
theorem MH:iN [j9 kA,j9 kB] (j9 kC)=[j9 kA,j9 kB,j9 kC]:=by simp[iN,vo]
theorem MI:iN [j9 kA,j9 kB,j9 kC] (j9 kD)=[j9 kA,j9 kB,j9 kC,j9 kD]:=by simp[iN,vo]
abbrev sj (k:ByteArray):ju:=⟨k,hd,gx,gy,gx⟩
abbrev mP:List ju:=[sj kA,sj kB,sj kC,sj kD]
abbrev nz:List ju:=[⟨kD,gy,gx,hd,gx⟩]
abbrev qw:Nd:=kt [kR [j9 kA,j9 kB],kR [j9 kC,j9 kD]]
theorem FV:mP.foldl j6 gB=gz qw:=by
 simp only[mP,hT,h8,j6,sj,if_true];rw[show ku gB (kA,gx)=kR [j9 kA] from rfl,FU MG oF,FU MH oF,MF MI oF];rfl
abbrev mF:Nd:= .mk [] [.mk [j9 kA,j9 kB] [] 2, .mk [j9 kC,j9 kD] [] 3] 4
theorem FW:mv 0 10 []=[2,3,4,5,6,7,8,9]:=by decide+kernel
theorem FX (d:ik): ∃p,kO (iP d 0 10 1 gB) gB mP=gz (gz mF,p):=by
 unfold kO;rw[Option.map_none,FV];simp only[iP,lh,FW];exact⟨_,rfl⟩
theorem FY:ly [kR [j9 kA,j9 kB],kR [j9 kC,j9 kD]] kD=1:=by simp[ly,kR,Nd.ie,vo]
theorem MJ:l6 [j9 kC,j9 kD] kD=[j9 kC]:=by simp[l6]
theorem MK:ji kD qw=kt [.mk [j9 kA,j9 kB,j9 kC] [] 0]:=by
 rw[ji,if_neg (by simp[qw,kt,Nd.gC])];split;rename_i a;simp only[qw,kt,Nd.gC] at a;rw[FY] at a;simp at a;rename_i c a;simp only[qw,kt,Nd.gC] at a |-;rw[FY] at a |-;simp only[List.getElem?_cons_succ,List.getElem?_cons_zero,hV] at a;subst a;rw[Bu (n:=kR [j9 kC,j9 kD]) rfl,show(kR [j9 kC,j9 kD]).ps=[j9 kC,j9 kD] from rfl,MJ];rfl
abbrev qT:Nd:= .mk [j9 kA,j9 kB,j9 kC] [] 5
theorem FZ:nz.foldl j6 (gz qw)=gz (.mk [j9 kA,j9 kB,j9 kC] [] 0):=by
 simp only[nz,hT,h8,j6,Bool.false_eq_true,if_false,jx];rw[MK];rfl
theorem ML:sU (gz mF) (bs (iy (.mk [j9 kA,j9 kB,j9 kC] [] 0)))≠gz g:=by
 intro f;obtain⟨k,b,_,e⟩:=FA f;have a:=congrArg (fun l:List UInt8=>(l.getD 0 0,l.getD 1 0)) e;simp only[k9,Nd.pre,Nd.sR,List.append_nil,List.cons_append,List.nil_append,j4,List.not_mem_nil,or_false] at b;rcases b with rfl|rfl|rfl;exact absurd a (by simp[iy,oY,kd,j5,jg,Nd.gC,Nd.ps]);rotate_left;all_goals exact absurd a (by simp[iy,oY,j5,jg,Nd.gC,Nd.ps])
theorem F0:mv 0 10 (lh (gz mF))=[5,6,7,8,9]:=by decide+kernel
theorem MM:(mv 0 10 (lh (gz qT))).length=7:=by decide+kernel
theorem sY:mF.er=qw:=rfl
theorem MN {look:List UInt8->Option Int} {r:List Int} {ws:List PW} (h:look (iy (.mk ps [] 0))=gB): ∃q,l7 look (.mk ps [] 0) ⟨g::r,ws⟩=gz (.mk ps [] g,q):=by
 rw[sF];simp only[Nd.gC,Nd.ps,lB];rw[h];exact⟨_,rfl⟩
theorem MO (d:ik): ∃p,kO (iP d 0 10 2 (gz mF)) (gz mF) nz=gz (gz qT,p):=by
 obtain⟨b,a⟩:=MN (look:=fun e=>sU (gz mF) (bs e)) (ps:=[j9 kA,j9 kB,j9 kC]) (g:=5) (r:=[6,7,8,9]) (ws:=[]) (Option.eq_none_iff_forall_ne_some.2 fun g=>ML);refine⟨b,?_⟩;unfold kO;rw[hz,sY,FZ];simp only[iP,F0];rw[a];rfl
theorem B8:iD gB mP=0:=by
 simp[iD,iZ,vo]
 decide
theorem F2:iD gB nz=0:=by
 simp[iD,iZ]
 decide
theorem MP:mP.any (og gB)=false:=by simp[mP,og,o5,sj]
theorem MQ:o5 (gz mF) kD=(gx,gy):=by
 have f:mF.kE kD=[j9 kC,j9 kD]:=by
  rw[Nd.mE (n:=mF) (by simp[Nd.gC])];have b:ly mF.gC kD=1:=by simp[ly,Nd.gC,Nd.ie,vo]
  have: ∀a (e:a<mF.gC.length),a=1->(mF.gC[a]).kE kD=[j9 kC,j9 kD]:=by rintro a e rfl;exact Nd.l8 rfl
  exact this _ _ b
 unfold o5;simp only;rw[f];simp[pF,jR,jM,vo]
theorem MR:nz.any (og (gz mF))=false:=by
 simp only[nz,List.any_cons,List.any_nil,og,MQ]
 decide
theorem MS:lg (Nd.iv qT) kB gx=[j9 kB,j9 kC]:=by
 rw[Nd.iJ (n:=qT) rfl];simp[lg,Nd.ps,vo]
theorem step_ok {V:Nat} {t e:Option Nd} {a:Ix×Int} (h:qb d gI gJ V t e a) (n:d.left= -1):a=(iP a.1.gL gI gJ (V+1) e,0)/\k5 a.1.gL gI gJ (V+1) e/\a.1.gL.left= -1:=by
 obtain⟨f,i⟩:=h.full n;rcases h.res with⟨b,j,m⟩|⟨b,_⟩;exact⟨Prod.ext m b,j,i⟩;rw[f] at b;exact absurd b oF
theorem MT: ∃(f b:ik) (F u i:Ix),mN 10 512=(f,0)/\kY f 0 10=(b,0)/\kN b 0 10=(F,0)/\lN F mP=(u,0)/\u.gN=4/\lN u nz=(i,0)/\i.gN=5/\i.gZ=3/\i.free.length=7/\vg i kB gx=([j9 kB,j9 kC],0)/\
  f.gH=[]/\F.gL.gH=[]/\u.gL.gH=[]/\ ∀t,mz i=gz t->(jz t).length<=1000000:=by
 obtain⟨ah,E,U,X,Y,ai⟩:=Lv (p:=10) (s:=512) oF;obtain⟨f,O⟩:=nM ((mN 10 512).1);rw[O] at E U X Y ai;have ad:iQ f 0 10=0:=Fu X Y oF oM oF oF;have R:=ME ad E;obtain⟨j,Z,J,_⟩:=ve R;obtain⟨b,P⟩:=nM ((kY f 0 10).1);rw[P] at j Z J;have af:=j.opens;have ae:=J E;rcases zO j oF mP with a|a|a|a|⟨_,_,_,ak,p,e,_,_,C⟩;exact absurd B8 a.1;rw[MP] at a;exact absurd a.2.1 oF;exact absurd a.2.2.1 (by simp[mP]);obtain⟨p,e⟩:=FX b;have:=FB j.tm (d:=b) (gI:=0) (gJ:=10) (V:=1) (l:=mP) fun c m=>(wy B8 c m).1;exfalso;have h:=a.2.2.2.1;simp only[iP,lh,FW] at h;have z:(uq (jz gB) mP).length=4:=by have:=ya (o:=gB) (l:=mP) (fun n q=>by cases q) fun c m=>(wy B8 c m).1;rw[FV] at this;rw[<-this];rfl
 rw[z] at h;exact absurd h oF;obtain⟨aj,D⟩:=FX b;rw[D] at e;simp only[hV,Prod.mk.injEq] at e;obtain⟨rfl,rfl⟩:=e;obtain⟨H,r,I⟩:=step_ok C ae;obtain⟨y,ab⟩:=nM ((lN (iP b 0 10 1 gB) mP).1.gL);rw[ab] at H r I;rcases zO r oF nz with a|a|a|a|⟨_,_,_,ak,p,e,_,_,C⟩;exact absurd F2 a.1;rw[MR] at a;exact absurd a.2.1 oF;exact absurd a.2.2.1 (by simp[nz]);exfalso;have h:=a.2.2.2.1;simp only[iP,F0] at h;have z:(uq (jz (gz mF)) nz).length=3:=by
  have:=ya (o:=gz qw) (l:=nz) (by
   intro n q;rw[<-sY] at q;exact r.tm.er n q) (fun c m=>(wy F2 c m).1)
  rw[FZ] at this;have ag:jz (gz mF)=jz (gz qw):=by rw[<-sY];exact(BV (gz mF)).symm
  rw[ag, <-this];rfl
 rw[z] at h;exact absurd h oF;obtain⟨aj,D⟩:=MO y;rw[D] at e;simp only[hV,Prod.mk.injEq] at e;obtain⟨rfl,rfl⟩:=e;obtain⟨M,N,aa⟩:=step_ok C I;obtain⟨G,ac⟩:=nM ((lN (iP y 0 10 (1+1) (gz mF)) nz).1.gL);rw[ac] at M N aa;have T:mz (iP G 0 10 (1+1+1) (gz qT))=gz (gz qT):=by rw[wx];exact N.valid
 refine⟨f,b,iP b 0 10 1 gB,iP y 0 10 (1+1) (gz mF),iP G 0 10 (1+1+1) (gz qT),Prod.ext O ah,Prod.ext P R,by rw[zv];exact af,H,rfl,M,rfl,rfl,MM,?_,U,j.empty,r.empty,?_⟩;unfold vg;rw[T];simp only[jz,MS];intro t S;rw[T] at S;cases S;simp only[jz];rw[Nd.iJ (n:=qT) rfl]
 decide
open Go.RowKit Go.Shelf
theorem F3 (p s:Int) (w:hq) {d:ik} {er:Int} (h:mN p s=(d,er)):hD gA 28 #[gE ha p, gE ha s] w (n9 w d er):=by
 refine(HR (S:=(· <w.heap.size)) p s w).mono ?_;rintro f w' ⟨e,rfl,a,b⟩;rw[h] at a |-;exact⟨e,rfl, .of a (vK b),b⟩
theorem zU (k:ByteArray) (w:hq):hD gA 42 #[hE k] w fun e w'=>e= ht (hG #[hE k, hF hd, hF gy, hE gx, hE gx])/\Below w.heap.size w w':=by
 go_enter func42,ntmps42;go_wp2;refine hf (v:= hG #[hE k, hF hd, hF gy, hE gx, hE gx]) (by simp[hn,results42,go_sem];rfl) rfl ?_;exact⟨rfl,Below.one _ _⟩
def lG (x:Ix) (er:Int):mS:=⟨fun r=> hI #[r.x 0, gE ha er],fun r W=>kG W (r.x 0) x⟩
theorem qU {f:FuncId} {args:Array h3} {r:Ix×Int} {W:hq} (h:hD gA f args W (oV W r)):hD gA f args W fun e w'=> ∃u,e= ht u/\pR (lG r.1 r.2) W u w':=by
 refine h.mono ?_;rintro e w' ⟨v,rfl,i,a⟩;exact⟨_,rfl,a,fun _=>v,rfl,fun j b=>i.below b⟩
theorem F4 (w:hq):hD gA 13 #[] w fun e w'=>e= ht (hF gy)/\Below w.heap.size w w':=by
 obtain⟨G,d1,a,x2,x3,bm,bs,bt,bu,bv,bw,bz,bA,bB,bn,bo,bp,bq,br⟩:=MT;have bj:=F3 10 512 w bm;have bL:=gF bs;have bM:=gF bt;have bN:=gF bu;have bO:=gF bv;have bP:=gF bw;have bQ:=gF bz;have bR:=gF bA;have bS:=gF bB;have bG:=gF bn;have bH:=gF bo;have bI:=gF bp;have bJ:=gF bq;have bK:=gF br;clear bm bs bt bu bv bw bz bA bB bn bo bp bq br;go_enter func13,ntmps13;go_wp2_with fail;refine bj.mono ?_;rintro e N ⟨ch,rfl,am,au⟩;have u:=am;obtain⟨aJ,aF,aa,V,rfl⟩:=am.agg;have P:=Bx.new N (dC G aJ aa aF V) 25;have i:=Below.one N (hM (dC G aJ aa aF V) 25);have ap:=u.below i;have aj:=iq au i;obtain⟨b1,b0⟩:=nM N.heap.size;have b5:w.heap.size<=b1:=by have:=au.size;omega
 obtain⟨bU,aq⟩:=nM (N.alloc (hM (dC G aJ aa aF V) 25));rw[aq,b0] at P;rw[aq] at ap aj;have aA:=EA G _ 0 10 bU ap (by rw[bH.o];simp);rw[bL.o] at aA;clear bj i u am au ap;obtain⟨t,D⟩:=P.c2;go_wp2_with fail;refine aA.mono ?_;rintro e b9 ⟨cj,rfl,an,aw⟩;have u:=an;obtain⟨aK,aG,ab,X,rfl⟩:=an.agg;have R:=P.gD aw;have a1:=iq aj aw;clear t D P aj aq aA an aw;obtain⟨t,D,bW⟩:=R.c3;obtain⟨w3,y⟩:=nM (mj b9 b1 (gE ha d1.size) (hA aK d1.gG.length aG) (hA ab d1.gH.length X) (gE ha d1.left));have cb:Bx w3 b1 (dC d1 aK ab aG X) 25:=by subst y;exact R.mj
 have a2:Below w.heap.size w w3:=by subst y;exact r8 a1 b5
 have bc:iF w3 (hG (dC d1 aK ab aG X)) d1:=by subst y;exact u.only R (uQ _ _ _ _ _) tY
 have aC:=Bd d1 _ 0 10 w3 bc;rw[bM.o] at aC;have aV:=gF y;have aT:=gF aC;clear y u bc a1 aC cb;go_wp2_with fail;have j:=aV.o;unfold mj at j;rw[j];refine aT.o.mono ?_;rintro e O ⟨ck,rfl,a9,bh⟩;have a8:=a9;obtain⟨M,J,F,E,I,H,rfl,_,_,_⟩:=a9;have ak:=iq a2 bh;clear j aV t D bW R a2 bh;have S:=Bx.new O (ib a.gL M F J E a.gI a.gJ a.gZ a.gN I a.free.length H) 33;have i:=Below.one O (hM (ib a.gL M F J E a.gI a.gJ a.gZ a.gN I a.free.length H) 33);obtain⟨b4,b2⟩:=nM O.heap.size;have bl:w.heap.size<=b4:=by have:=ak.size;omega
 obtain⟨n,ar⟩:=nM (O.alloc (hM (ib a.gL M F J E a.gI a.gJ a.gZ a.gN I a.free.length H) 33));rw[ar,b2] at S;rw[ar] at i;have a3:=iq ak i;have a':=a8.below i;go_upto_region 5 with fail
 clear a8 i ak ar aT;have aR:Hid (∀W v,Below n.heap.size n W-> ∀o,oI W o mP->jk o 4 4->v= hG (ib a.gL M F J E a.gI a.gJ a.gZ a.gN I a.free.length H)->hD gA 36 #[v, hA o 4 4] W (oV W (x2,0))):=gF (by
  rintro W v f o aB b3 rfl;have:=zR a _ mP o 4 W (a'.below f) b3 oF aB (by rw[bI.o];simp);rw[bN.o] at this;exact this)
 obtain⟨t,D⟩:=S.c2;have bV:=jv.cells n;have aQ:Hid (∀aP:jv n,Below n.heap.size n aP.w):=gF fun aP=>aP.h;refine sf 14 13 2 #[gy,gy,gy,gy,gy,gy,gy,gy,gy,gy,gy,gy,gy,hd,hd,hd] #[gy,gy,gy,gy,gy,gy,gy,gy,gy,gy,gy,gy,gy,gy,hd,hd] (fun r=>if r=2 then gz (iw (hG #[hE kA, hF hd, hF gy, hE gx, hE gx])) else if r=4 then gz (iw (hG #[hE kB, hF hd, hF gy, hE gx, hE gx])) else if r=6 then gz (iw (hG #[hE kC, hF hd, hF gy, hE gx, hE gx])) else if r=8 then gz (iw (hG #[hE kD, hF hd, hF gy, hE gx, hE gx])) else if r=9 then gz (p8 4 (kU mP) 71) else if r=10 then gz (lG x2 0) else gB) _ oP rfl oO oO oP oO rfl (fun _ _ _ _ bX=>bX) (sg _ _ rfl) ?_;simp only[hy,hL];refine LW.b 2 2 ?_;simp only[jC];repeat (go_big_quiet_step (fail))
 refine hh ?_;refine LW.z ?_ ?_;. intro h _;unfold ix;go_simp;exact qF (zU _ _)
 intro _;simp only[hj,gU]
 (try simp only[iw])
 refine LW.b 1 4 ?_;simp only[jC];repeat (go_big_quiet_step (fail))
 refine hh ?_;refine LW.z ?_ ?_;. intro h _;unfold ix;go_simp;exact qF (zU _ _)
 intro _;simp only[hj,gU]
 (try simp only[iw])
 refine LW.b 1 6 ?_;simp only[jC];repeat (go_big_quiet_step (fail))
 refine hh ?_;refine LW.z ?_ ?_;. intro h _;unfold ix;go_simp;exact qF (zU _ _)
 intro _;simp only[hj,gU]
 (try simp only[iw])
 refine LW.b 1 8 ?_;simp only[jC];repeat (go_big_quiet_step (fail))
 refine hh ?_;refine LW.z ?_ ?_;. intro h _;unfold ix;go_simp;exact qF (zU _ _)
 intro _;simp only[hj,gU]
 (try simp only[iw])
 refine LW.z ?_ ?_;. intro h bi;unfold ix;go_simp;exact⟨Below.one _ _,fun _=>undef,rfl,fun cm f=>(Bx.new h.w _ _).gD f⟩
 intro bC;simp only[hj,gU];refine LW.z ?_ ?_;.
  intro h bi;have aZ:Bx h.w bC.lo (kU mP).toArray 71:=(bi 9 (by decide+kernel)).get oO oO;unfold ix;simp only[p8];go_simp;have aB:oI h.w (gz ⟨bC.lo,0,gB⟩) mP:=(gO.bx aZ).mono fun aX f=>by subst f;exact aZ.lt
  exact qU (aR.o h.w _ (aQ.o _) _ aB (.inr ⟨_,rfl,oF,by unfold maxLen;decide⟩) rfl)
 intro b8;simp only[hj,gU,lG];refine LW.b 3 14 ?_;simp only[jC];repeat (go_big_quiet_step (fail))
 refine hh ?_;refine LW.done ?_;intro bD al;have bb:kG bD (b8.x 0) x2:=al.get 10 rfl rfl;have ax:=al.below;have ao:=bb;obtain⟨aL,aH,ac,Y,ah,af,aY,-,-,-⟩:=bb;rw[aY] at ao |-;have T:=S.gD ax;have a4:=iq a3 ax;obtain⟨w6,q⟩:=nM (jr bD b4 (gE ha x2.gL.size) (hA aL x2.gL.gG.length aH) (hA ac x2.gL.gH.length Y) (gE ha x2.gL.left) (gE ha x2.gI) (gE ha x2.gJ) (gE ha x2.gZ) (gE ha x2.gN) (hA ah x2.free.length af));have aO:Bx w6 b4 (ib x2.gL aL ac aH Y x2.gI x2.gJ x2.gZ x2.gN ah x2.free.length af) 33:=by subst q;exact T.kh
 have a5:Below w.heap.size w w6:=by subst q;exact mV a4 bl
 have be:kG w6 (hG (ib x2.gL aL ac aH Y x2.gI x2.gJ x2.gZ x2.gN ah x2.free.length af)) x2:=by subst q;exact ao.only T (kZ _ _ _ _ _ _ _ _ _ _ _ _ _ _ _) oF Only.nine
 obtain⟨b,s,ae⟩:=T.c3;unfold ib at b;clear al bV aQ aR t D ao a' a3 a4 ax S T aY;unfold jr lj at q;refine iG 14 fun K hK=>?_;go_simp;refine hK _ _ ?_;clear hK K;refine iG 15 fun K hK=>?_;go_simp;refine hK _ _ ?_;clear hK K;refine kS ?_
 (try rw[q])
 clear q b s ae;have p:=Below.one w6 (hM (kU nz).toArray 71);have m:=Bx.new w6 (kU nz).toArray 71;have bE:=aO.alloc (hM (kU nz).toArray 71);have a6:=iq a5 p;have az:=zR x2 _ nz (gz ⟨w6.heap.size,0,gB⟩) 1 _ (be.below p) (.inr ⟨_,rfl,oF,by unfold maxLen;decide⟩) oF ((gO.bx m).mono fun aX f=>by subst f;exact m.lt) (by rw[bJ.o];simp);rw[bP.o] at az;have aS:=gF az;have ce:(x2.gN==4)=true:=by rw[bO.o];rfl
 obtain⟨b,s⟩:=aO.c2;unfold ib at b;clear az be p m;go_wp2_with fail;refine aS.o.mono ?_;rintro e b' ⟨cl,rfl,bf,ay⟩;have bd:=bf;obtain⟨aM,aI,ad,Z,ai,ag,rfl,-,-,-⟩:=bf;have U:=bE.gD ay;have a7:=iq a6 ay;clear b s aO bE aS ay a5 a6;obtain⟨w9,C⟩:=nM (jr b' b4 (gE ha x3.gL.size) (hA aM x3.gL.gG.length aI) (hA ad x3.gL.gH.length Z) (gE ha x3.gL.left) (gE ha x3.gI) (gE ha x3.gJ) (gE ha x3.gZ) (gE ha x3.gN) (hA ai x3.free.length ag));have bF:Bx w9 b4 (ib x3.gL aM ad aI Z x3.gI x3.gJ x3.gZ x3.gN ai x3.free.length ag) 33:=by subst C;exact U.kh
 have a0:Below w.heap.size w w9:=by subst C;exact mV a7 bl
 have bg:kG w9 (hG (ib x3.gL aM ad aI Z x3.gI x3.gJ x3.gZ x3.gN ai x3.free.length ag)) x3:=by subst C;exact bd.only U (kZ _ _ _ _ _ _ _ _ _ _ _ _ _ _ _) oF Only.nine
 have aD:=L4 x3 _ kB gx w9 bg.v bK.o;rw[bG.o] at aD;have aU:=gF aD;obtain⟨b,s,ae⟩:=U.c3;unfold ib at b;have aW:=gF C;clear C aD bd bg a7;go_wp2_with fail;have j:=aW.o;unfold jr lj at j;rw[j];refine aU.o.mono ?_;rintro e aN ⟨av,ci,rfl,ba⟩;obtain⟨b7,b6,rfl,cd,bk⟩:=BX.at ba;have ca:=bF.gD av;have bY:=iq a0 av;clear j aW b s ae U bF aU av a0 ba;have cf:(x3.gN==5)=true:=by rw[bQ.o];rfl
 have cg:(x3.gZ==3)=true:=by rw[bR.o];rfl
 have cc:((x3.free.length:Int)==7)=true:=by rw[bS.o];rfl
 have p:=Below.one aN (hM (gV [j9 kB,j9 kC]).toArray 77);have m:=Bx.new aN (gV [j9 kB,j9 kC]).toArray 77;have aE:=Mh [j9 kB,j9 kC] [j9 kB,j9 kC] b7 (gz ⟨aN.heap.size,0,gB⟩) b6 2 _ (bk.below p) ((gO.bx m).mono fun aX f=>by subst f;exact m.lt) oF oF;rw[show decide ([j9 kB,j9 kC]=[j9 kB,j9 kC])=gy by simp] at aE;have bT:=gF aE;obtain⟨b,s⟩:=ca.c2;unfold ib at b;clear aE bk m;go_wp2_with fail;refine bT.o.mono ?_;rintro e cn ⟨rfl,bZ⟩;go_wp2;go_ret;exact⟨rfl,iq (iq bY p) bZ⟩
end Go.Proofs.YtlefmmhlpgmbjaaGreat
