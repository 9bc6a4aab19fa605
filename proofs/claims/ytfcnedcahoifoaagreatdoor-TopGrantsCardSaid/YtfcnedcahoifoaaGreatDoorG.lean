import Derived.Lib.MapLaws
import Derived.Maps.RangeWalk
import Derived.Maps.OwnSet
import Derived.Test.YtfcnedcahoifoaaGreatDoorB
import Derived.Test.YtfcnedcahoifoaaGreatDoorC
namespace Go.Proofs.YtfcnedcahoifoaaGreatDoor
open Go.RowKit
open _root_.Bool renaming and_eq_true→ba,false_and→eO,true_and→eF
open _root_.Go renaming Addr→jG,CallsIn→bj2,Calls→jE,Code→bk9,Ending→bi6,KeepsOthers→bj4,OwnFrom→bj3,Program→bi3,TypeId→jH,Value→jD,World→jC,YieldAt→bl4,belowK_b→bj6,bodyPost_end→bl6,bodyPost_ret→jF,callsIn_of_wp_marks→bi7,callsIn_of_wp→bj1,callsIn_wide→jI,grownBy_putObj'→bj5,info_parts→bi5,ownsRow_setCell_other→bj0,results_none→bj7,run_takeDeferred→bi2,wpIn_wide→bi4,wpList_append_own→bk3
open _root_.Go.CallsIn renaming inRound→d_
open _root_.Go.DataW renaming insert→fC,map→jy
open _root_.Go.Exit renaming noGoto_ret→cf
open _root_.Go.Fence renaming wide→cz
open _root_.Go.Instr renaming field→i_,mapUpdate→fG,next→fw,typeAssert→dd
open _root_.Go.KeepsOthers renaming refl→gq,setCell→b7
open _root_.Go.Lib renaming below_iterAt→iq,hid→ai,indexByte→gd,iterAt_heap→iC,run_next_any_at→fp,run_next_end_at→fq
open _root_.Go.Lit renaming int→iK
open _root_.Go.Maps renaming has→iL,keyOf_int_mk→f_,size→gZ
open _root_.Go.Op renaming bytesLess→dW
open _root_.Go.Oper renaming semAt_some→db
open _root_.Go.RowKit renaming intOf→av
open _root_.Go.Value renaming int→br
open _root_.Go.World renaming cell?_of_block→co,iterPos→eR,ownsRow_nil→dY,putObj_heap_other→dx,setCell→bj
open _root_.List renaming all_append→gT,append_assoc→eH,append_eq_nil_iff→iM,append_nil→eB,cons_append→dj,drop_eq_getElem_cons→dN,drop_eq_nil_of_le→ei,eq_nil_of_length_eq_zero→da,filter_cons→eC,filter_eq_self→eY,getElem?_eq_getElem→an,getElem?_eq_none→fS,getElem?_eq_some_iff→ci,getElem?_map→eD,idxOf_lt_length_iff→iB,length_append→cd,length_cons→c_,length_drop→dr,length_map→ax,length_nil→dp,length_take→cv,length→ez,map_append→dH,map_cons→df,mem_cons_of_mem→dS,mem_cons_self→di,mem_cons→cw,mem_map→dq,mem_range→dh,mem_singleton→eM,mem_take_iff_getElem→iy,pairwise_cons→b6,range→bu,take_append_drop→fQ,take_length→dP,take_of_length_le→cl,take_prefix→eS,take_succ_eq_append_getElem→aj,take_zero→fO
open _root_.Nat renaming add_assoc→gW,le_refl→ay,le_succ→dU,le_trans→a_,lt_or_ge→fB,reduceAdd→ao,reduceSub→dk,zero_add→au,zero_le→be
open _root_.Bool renaming false→u?,true→t?
open _root_.Go.Ending renaming returned→a?
open _root_.Go.IntKind renaming i32→q?,i64→o?
open _root_.Go.Obj renaming cells→m?
open _root_.Go.Value renaming agg→g?,bool→h?,iface→i?,int→c?,map→l?,nilIface→j?,pointer→e?,slice→b?,string→f?,tuple→d?
open _root_.Option renaming none→Z,some→M
open _root_.Or renaming inl→r?,inr→s?
open _root_ renaming Array→x?,Bool→z?,ByteArray→v?,Int→I,List→E,Nat→O,Option→w?,UInt8→y?,absurd→H?,congrArg→C?,decide_eq_false→E?,decide_eq_true_eq→D?,decide_eq_true→F?,if_neg→A?,if_pos→B?
set_option maxRecDepth 100000
set_option maxHeartbeats 16000000
set_option linter.unusedVariables false
set_option linter.unusedSimpArgs false
set_option linter.defProp false
instance aX3(x0:O):CoeOut (sH 41 x0) jD:=⟨λ_=>i? 340 (g? #[c? q? (x0:I)])⟩
structure SdA where
def dA:SdA:=⟨⟩
instance aU3:CoeOut SdA Obj:=⟨λ_=>(m? #[h? u?] 4)⟩
structure SdF where
def dF:SdF:=⟨⟩
instance aU1:CoeOut SdF (x? jD):=⟨λ_=>#[f? ⟨#[59]⟩]⟩
namespace Sc
section
variable{w w':jC}{B B':O}{A:w? jG}{l:E kI}
end
section
open Go.RowKit Go.Shelf
attribute [local go_sem] db
end
section
variable{F:Fence}{n:O}{P:bi3}
end
section
attribute [local go_sem] db
end
section
attribute [local go_sem] db
def k8(l:E kI)(n:v?):v?×z?:=match l.find? λx=>x.1.toList==n.toList with
 |some x=>(x.2,t?)
 |none=>(⟨#[]⟩,u?)
variable{l:E kI}{n:v?}
def Ob(h:(k8 l n).2=u?)(x:kI):k8 (l++[x]) n=if x.1.toList==n.toList then(x.2,t?)else(⟨#[]⟩,u?):=by
 unfold k8 at h⊢;rw[List.find?_append]
 cases e:l.find? λx=>x.1.toList==n.toList with
 |some y=>rw[e]at h;cases h
 |none=>
  simp only[Option.none_or,List.find?_cons,List.find?_nil]
  cases a:x.1.toList==n.toList<;>rfl
def uy(h:(k8 l n).2=u?):k8 l n=(⟨#[]⟩,u?):=by
 unfold k8 at h⊢
 cases e:l.find? λx=>x.1.toList==n.toList with
 |some y=>rw[e]at h;cases h
 |none=>rfl
def Od(h:(k8 l n).2=t?)(t:E kI):k8 (l++t) n=k8 l n:=by
 unfold k8 at h⊢;rw[List.find?_append]
 cases e:l.find? λx=>x.1.toList==n.toList with
 |some y=>rfl
 |none=>rw[e]at h;cases h
def GtI(w:jC)(n:v?)(l:E kI)(a:E (At l.length))(W:jC):Prop:=
 jR W w 9 #[jL n]/\jR W (w.heap.size+1) 9 #[aF]/\jR W (aN w) 4 #[h? u?]/\(k8 (m_ l a) n).2=u?/\Below w w W
def GtX(w:jC)(n:v?)(l:E kI)(c:bk9)(a:E (At l.length))(W:jC):Prop:=
 c=.ret/\jR W (w.heap.size+1) 9 #[jL (k8 (m_ l a) n).1]/\jR W (aN w) 4 #[h? t?]/\(k8 (m_ l a) n).2=t?/\Below w w W
variable{w:jC}
def VC{Bd:O}(g:w.heap.size<=Bd):bj3 Bd (GtI w n l):=by
 rintro s W o m⟨j,d,h,f,c⟩ a b;exact⟨j.kept a (λr e=>(b r e).2),d.kept a (λr e=>(b r e).2),h.kept a (λr e=>(b r e).2),f,c.grown a c.size (λk e=>a_ g (b k e).1)⟩
def VB{c:bk9}{Bd:O}(g:w.heap.size<=Bd):bj3 Bd (GtX w n l c):=by
 rintro s W p o⟨j,m,f,h,d⟩ a b;exact⟨j,m.kept a (λr e=>(b r e).2),f.kept a (λr e=>(b r e).2),h,d.grown a d.size (λk e=>a_ g (b k e).1)⟩
def XL(A:w? jG)(l:E kI)(cap:O)(n:v?)(h6:l.length<=4294967296)(w:jC)(hS:Lb w w A l):bj2 cz 6 Tryz.prog 225 #[jN A l cap,jL n] w λe w'=>e=a? (.tuple #[jL (k8 l n).1,.bool (k8 l n).2])/\Below w w w':=by
 have T:Below w w (((w.alloc (cQ n)).alloc (m? #[aF] 9)).alloc dA):=jP (jP (jP (jQ _) _) _) _;have X:=ah (((jR.new w 9 #[jL n]).alloc (m? #[aF] 9)).alloc dA);have Y:=ah ((tZ w (cQ n) 9 #[aF]).alloc dA);have L:=ah (Bl w (cQ n) (m? #[aF] 9) 4 #[.bool u?]);have HS:=ah (nY hS T);have NE:Hid (l.length≠0->∀G,A=M G->G.block<w.heap.size):=λh G e=>by
  obtain⟨b,ε,e',s,_⟩:=hS.at_ (by omega);rw[e']at e;cases e;exact s
 clear hS;refine bi7 Tryz.func225 rfl trivial ?_ rfl;simp only[Tryz.ntmps225,xb,ao,dk];refine bi4.2 ?_;go_wp2_with fail;generalize((w.alloc (cQ n)).alloc (m? #[aF] 9)).alloc dA=C at*;refine(tT _ _ _ _).mono ?_;rintro e w'⟨rfl,rfl⟩;have m:=jP (jQ C) (m? #[jN A l cap] 72);have μ:=ah (jR.new C 72 #[jN A l cap]);have WZ:=ah L.lt;replace X:=ah (X.later m);replace Y:=ah (Y.later m);replace L:=ah (L.later m);replace HS:=ah (nY HS m);replace T:=Below.two T m;clear m;go_wp2_with fail;generalize C.alloc (m? #[jN A l cap] 72)=V at*;have xz:=X.lt;have yz:=Y.lt;have θ:=L.lt;have wz:=WZ.out;have vz:=μ.out.lt;obtain⟨zs,P⟩:=mH (N:=l.length) (bu l.length) (λp hp=>dh.1 hp);have HZ:=ai P;have δ:GtI w n l [] V:=⟨X.out,Y.out,L.out,rfl,T⟩;clear P;refine(bi4 (n:=6)).1 ?_;refine pB rfl (by omega) (gf:=222) (lb:=#[aV C]) rfl trivial (enters_of Tryz.func222 (by kernel_rfl) rfl)
  (values_stops 5 (by omega) C.heap.size cap (λi=>i≠w.heap.size+1/\i≠w.heap.size+1+1) A l zs HZ.out (by omega) V ⟨by omega,by omega⟩ (λh G e=>by have:=NE.out h G e;exact⟨by omega,by omega⟩) μ.out HS.out)
  (λh k=>lJ h k) (zm (by omega)) (λW o h=>kW (by omega) (jP (jQ W) o)) (Below.refl _ _) (λ_=>rfl)
  (GtI w n l) (GtX w n l) (VC (by omega)) (λc=>VB (by omega)) δ
  (λx b=>{tmps:=#[jN A l cap,jL n,undef,jO w,.pointer (M (aE w)),.pointer (M (aG w)),jO b,jN A l cap,
   .func (.func 222) #[] #[jO C],g? #[jL (k7 l x.1).1,jL (k7 l x.1).2],undef,undef,undef,undef,undef,undef],defers:=[]})
  (λx=>m? #[jL (k7 l x.1).1,jL (k7 l x.1).2] 71) ?assign ?body ?done ?stop
 case assign=>
  intro l x W K z;gi_wp2;exact z
 case body=>
  rintro l' j x W b⟨hX,q,d,a,s⟩ κ hN η;have HX:=ah hX;have v:=ah q;have y:=ah d;have HN:Hid (jR W b 71 #[jL (k7 l x.1).1,jL (k7 l x.1).2]):=hN;have HB:=ah s;have Q:Hid (k8 (m_ l (j++[x])) n=if(k7 l x.1).1.toList==n.toList then((k7 l x.1).2,t?)else(⟨#[]⟩,u?)):=by show _=_;rw[rK,Ob a]
  have KO:bj4 W W:=gq _;clear hX q d hN s a;generalize k7 l x.1=it at*;have x0:=HX.one;have n0:=HN.p0;have n1:=HN.p1;have fy:=v.frozen 0;have γ:=y.frozen 0;have y0:=v.one;have y2:=y.one;have zx:=HX.lt;have zy:=v.lt;have β:=y.lt;have zn:=HN.lt
  cases c1:it.1.toList==n.toList with
  |true=>
   have R:Hid (k8 (m_ l (j++[x])) n=(it.2,t?)):=by show _=_;rw[Q,c1];rfl
   gi_wp2_with fail;refine⟨(KO.trans (b7 _ _ _)).trans (b7 _ _ _),rfl,?_,?_,?_,?_⟩
   .rw[R];exact(v.kY 0 _).far (by show w.heap.size+1≠w.heap.size+1+1;omega) _
   .exact(y.far (by show w.heap.size+1+1≠w.heap.size+1;omega) _).kY 0 _
   .rw[R]
   exact(HB.setCell (dU _) _).setCell (by show(aU w);omega) _
  |false=>
   have R:Hid (k8 (m_ l (j++[x])) n=(⟨#[]⟩,u?)):=by show _=_;rw[Q,c1];rfl
   gi_wp2_with fail;exact⟨KO,sr _ _ _,HX,v,y,by rw[R],HB⟩
 case done=>
  rintro D ys W hD rfl⟨hX,q,d,a,s⟩ z;have HE:Hid (k8 l n=(⟨#[]⟩,u?)):=by
   show _=_;rw[wl HZ]at a;exact uy a
  have fy:=q.frozen 0;have γ:=d.frozen 0;have y0:=q.one;have y2:=d.one;have zy:=q.lt;have β:=d.lt;have v:=ah q;have y:=ah d;have HB:=ah s;have HK:=ah z;clear hX a q d s z;go_wp2_with fail;try rw[cf]
  have J:((W.setCell (aE w) (aF)).setCell (aG w) (.bool u?)).heap[D]? =M (aY):=
   (Below.heap_setCell _ (aG w) _ D (by show D≠w.heap.size+1+1;omega)).trans ((Below.heap_setCell W (aE w) _ D (by show D≠w.heap.size+1;omega)).trans HK)
  refine⟨by simp,r? ⟨_,_,rfl,bi2 J,?_⟩⟩;have α:Below w w ((W.setCell (aE w) (aF)).setCell (aG w) (.bool u?)):=(HB.setCell (dU _) _).setCell (by show(aU w);omega) _;have B1:jR ((W.setCell (aE w) (aF)).setCell (aG w) (.bool u?)) (w.heap.size+1) 9 #[aF]:=(v.kY 0 _).far (by show w.heap.size+1≠w.heap.size+1+1;omega) _;have B2:jR ((W.setCell (aE w) (aF)).setCell (aG w) (.bool u?)) (aN w) 4 #[.bool u?]:=(y.far (by show w.heap.size+1+1≠w.heap.size+1;omega) _).kY 0 _;generalize(W.setCell (aE w) (aF)).setCell (aG w) (.bool u?)=W4 at*;have f:w.heap.size+1≠D:=by omega
  have g:w.heap.size+1+1≠D:=by omega
  have B:=bj6 (w:=w) aa W4 D _ cJ (by omega) J rfl rfl;have q1:(W4.putObj D cJ).cell? (aE w)=M (aF):=(co (dx (by first|exact f|exact f.symm|exact g|exact g.symm))).trans B1.one;have q2:(W4.putObj D cJ).cell? (aG w)=M (.bool u?):=(co (dx (by first|exact f|exact f.symm|exact g|exact g.symm))).trans B2.one;exact⟨.tuple #[aF,.bool u?],by simp[results,Tryz.results225,go_sem,q1,q2],by rw[HE],α.trans B⟩
 rintro D c' j W hD F⟨rfl,q,d,a,s⟩ z;have HE:Hid (k8 l n=((k8 (m_ l j) n).1,t?)):=by
  show _=_;obtain⟨t,ht⟩:=Gu HZ F;have:k8 l n=k8 (m_ l j) n:=by
   conv=>lhs;rw[ht]
   exact Od a t
  rw[this];exact Prod.ext rfl a
 have y0:=q.one;have y1:=d.one;clear a;refine bi4.2 ?_;go_wp2_with fail;try rw[cf]
 refine⟨by simp,r? ⟨_,_,rfl,bi2 z,?_⟩⟩;have f:w.heap.size+1≠D:=by omega
 have g:w.heap.size+1+1≠D:=by omega
 have B:=bj6 (w:=w) aa W D _ cJ (by omega) z rfl rfl;have q1:(W.putObj D cJ).cell? (aE w)=_:=(co (dx (by first|exact f|exact f.symm|exact g|exact g.symm))).trans y0;have q2:(W.putObj D cJ).cell? (aG w)=M (.bool t?):=(co (dx (by first|exact f|exact f.symm|exact g|exact g.symm))).trans y1;exact⟨.tuple #[jL (k8 (m_ l j) n).1,.bool t?],by simp[results,Tryz.results225,go_sem,q1,q2],by rw[HE],s.trans B⟩
def get_any(A:w? jG)(l:E kI)(cap:O)(n:v?)(b:l.length<=4294967296)(w:jC)(a:Lb w w A l):jE Tryz.prog 225 #[jN A l cap,jL n] w λe w'=>e=a? (d? #[jL (k8 l n).1,h? (k8 l n).2])/\Below w w w':=jI.1 (XL A l cap n b w a)
end
section
attribute [local go_sem] db
end
inductive Sg where
 |any
 |one
 |that (c:O)
 deriving DecidableEq
def stepS(s:E Sg×z?)(d:O×O):E Sg×z?:=
 if s.2=t? then(s.1++[.that d.1],u?)
 else if d.1=42 then(s.1++[.any],u?)
 else if d.1=63 then(s.1++[.one],u?)
 else if d.1=126 then(s.1,t?)
 else(s.1++[.that d.1],u?)
def BT(s:E Sg×z?)(a:E (O×O)):E Sg×z?:=a.foldl stepS s
def mu(p:E y?):w? (E Sg):=
 if mP p=t? then(if(BT ([],u?) (cp p)).2=t? then Z else M (BT ([],u?) (cp p)).1)else Z
def PI(s:E Sg×z?)(a:E (O×O))(d:O×O):BT s (a++[d])=stepS (BT s a) d:=by simp[BT]
def DW:∀(a:E (O×O))(s:E Sg×z?),(BT s a).1.length<=s.1.length+a.length
 |[],s=>by simp[BT]
 |d::a,s=>by
  have h:=DW a (stepS s d);have b:(stepS s d).1.length<=s.1.length+1:=by unfold stepS;(repeat' split)<;>simp
  show(BT (stepS s d) a).1.length<=_;simp only[c_];omega
def Hk:Sg->O->z?
 |.any,_=>u?
 |.one,_=>t?
 |.that c,d=>c==d
inductive Mt:E Sg->E O->Prop where
 |nil:Mt [] []
 |any (l:E Sg) (u v:E O):Mt l v->Mt (.any::l) (u++v)
 |for_ (s:Sg) (l:E Sg) (c:O) (v:E O):Hk s c=t?->Mt l v->Mt (s::l) (c::v)
variable{a b:E Sg}{v:E O}
def Mt.append{u:E O}(h:Mt a u)(k:Mt b v):Mt (a++b) (u++v):=by
 induction h with
 |nil=>exact k
 |any l x y _ d=>rw[eH];exact .any _ _ _ d
 |for_ s l c y h _ d=>exact .for_ _ _ _ _ h d
def Mt.parts:∀{v:E O},Mt (a++b) v->∃x y,v=x++y/\Mt a x/\Mt b y:=by
 induction a with
 |nil=>intro v h;exact⟨[],v,rfl,.nil,h⟩
 |cons s a f=>
  intro v h
  cases h with
  |any _ u w h=>
   obtain⟨x,y,rfl,d,e⟩:=f h;exact⟨u++x,y,by rw[eH],.any _ _ _ d,e⟩
  |for_ _ _ c w g h=>
   obtain⟨x,y,rfl,d,e⟩:=f h;exact⟨c::x,y,rfl,.for_ _ _ _ _ g d,e⟩
def Mt.LX:Mt [] v↔v=[]:=⟨λh=>by cases h;rfl,λh=>h▸.nil⟩
def Mt.star(v:E O):Mt [.any] v:=by have:=Mt.any [] v [] .nil;rwa[eB]at this
def Mt.LV{s:Sg}(hs:s≠.any):Mt [s] v↔∃c,v=[c]/\Hk s c=t?:=by
 constructor
 .intro h
  cases h with
  |any=>exact H? rfl hs
  |for_ _ _ c w a h=>rw[Mt.LX]at h;subst h;exact⟨c,rfl,a⟩
 rintro⟨c,rfl,h⟩;exact .for_ _ _ _ _ h .nil
def tk(l:E Sg)(j:O):E Sg:=if l[j]? =M .any then l.take (j+1)else l.take j
def Pl(l:E Sg)(v:E O)(j:O):Prop:=j<=l.length/\Mt (tk l j) v
variable{l:E Sg}
def Pl.end_:Pl l v l.length↔Mt l v:=by
 unfold Pl tk;rw[fS aa,A? lV,dP];exact⟨λh=>h.2,λh=>⟨ay _,h⟩⟩
def Cl(l:E Sg)(k j:O):Prop:=k<=j/\j<=l.length/\∀i,k<=i->i<j->l[i]? =M .any
variable{k:O}
def Cl.self(h:k<=l.length):Cl l k k:=⟨ay _,h,λi a b=>jS⟩
def take_any{i:O}(h:l[i]? =M .any):l.take (i+1)=l.take i++[.any]:=by
 have b:i<l.length:=by
  rcases fB i l.length with a|a
  .exact a
  rw[fS a]at h;cases h
 rw[aj b];rw[an b]at h;rw[Option.some.inj h]
def Mt.IH{w:E O}(h:Mt (a++[.any]) v):Mt (a++[.any]) (v++w):=by
 obtain⟨x,y,rfl,b,c⟩:=h.parts;rw[eH];exact b.append (Mt.star _)
def Mt.UZ{l:E Sg}{v:E O}{k:O}(h:Mt (l.take k) v):∀(n:O),(∀i,k<=i->i<k+n->l[i]? =M .any)->Mt (l.take (k+n)) v
 |0,_=>h
 |n+1,a=>by
  have b:=Mt.UZ h n λi c d=>a i c jS;rw[<-gW,take_any (a (k+n) jS jS)];have:=b.append (Mt.star []);rwa[eB]at this
variable{j:O}
def Mt.Pj(h:Mt (l.take j) v):Mt (tk l j) v:=by
 unfold tk;split
 .next e=>
  rw[take_any e];have:=h.append (Mt.star []);rwa[eB]at this
 exact h
def Pl.start:Pl l [] j↔Cl l 0 j:=by
 constructor
 .rintro⟨c,h⟩;refine⟨be _,c,λi _ p=>?_⟩;have n:∀a:E Sg,Mt a []->∀s∈a,s=.any:=by
   intro a h;generalize d:([]:E O)=v at h;induction h with
   |nil=>intro s b;cases b
   |any l u v h o=>
    have f:=(iM.1 d.symm).2;intro s b;rcases cw.1 b with e|e
    .exact e
    exact o f.symm s e
   |for_=>cases d
  have m:i<l.length:=jS;have:=n _ h l[i] (by
   unfold tk;split
   .exact iy.2 ⟨i,jS,rfl⟩
   exact iy.2 ⟨i,jS,rfl⟩)
  rw[an m,this]
 rintro⟨_,c,h⟩;refine⟨c,Mt.Pj ?_⟩;have:=Mt.UZ (l:=l) (v:=[]) (k:=0) (by rw[fO];exact .nil) j λi g q=>h i g jS;rwa[au]at this
def From(l:E Sg)(c at_ j:O):Prop:=
 (l[at_]? =M .any/\Cl l at_ j)\/∃s,l[at_]? =M s/\s≠.any/\Hk s c=t?/\Cl l (at_+1) j
def Pk(h:¬l[j]? =M .any):tk l j=l.take j:=A? h
def Je(h:l[j]? =M .any):tk l j=l.take j++[.any]:=by unfold tk;rw[B? h,take_any h]
def RA{i:O}{s:Sg}(h:l[i]? =M s):∃a:i<l.length,l[i]=s:=by
 obtain⟨a,e⟩:=ci.1 h;exact⟨a,e⟩
def Mt.back{l:E Sg}{v:E O}{c:O}:∀(j:O),j<=l.length->Mt (l.take j) (v++[c])->
 ∃k,k<j/\(∀i,k<i->i<j->l[i]? =M .any)/\((l[k]? =M .any/\Mt (l.take (k+1)) v)\/∃s,l[k]? =M s/\s≠.any/\Hk s c=t?/\Mt (l.take k) v)
 |0,_,h=>by
  rw[fO,Mt.LX]at h;exact H? h lV
 |j+1,z,h=>by
  have n:j<l.length:=jS;rw[aj n]at h;obtain⟨x,y,e,a,f⟩:=h.parts;by_cases p:l[j]=.any
  .have m:l[j]? =M .any:=by rw[an n,p]
   rcases List.eq_nil_or_concat y with rfl|⟨A,b,rfl⟩
   .rw[eB]at e;subst e;obtain⟨k,B,w,r⟩:=Mt.back j jS a;refine⟨k,jS,λi a f=>?_,r⟩;by_cases o:i=j
    .rw[o];exact m
    exact w i a jS
   rw[List.concat_eq_append,<-eH]at e;obtain⟨g,_⟩:=List.append_inj' e rfl;refine⟨j,jS,λi a f=>jS,r? ⟨m,?_⟩⟩;rw[take_any m,g];exact a.append (Mt.star _)
  rw[Mt.LV p]at f;obtain⟨d,rfl,q⟩:=f;obtain⟨g,t⟩:=List.append_inj' e rfl;obtain rfl:c=d:=by simpa using t
  exact⟨j,jS,λi a f=>jS,s? ⟨l[j],an n,p,q,by rw[g];exact a⟩⟩
variable{c:O}
def Pl.next:Pl l (v++[c]) j↔∃at_,Pl l v at_/\From l c at_ j:=by
 constructor
 .rintro⟨t,h⟩;obtain⟨m,z,w,C,h⟩:∃m,m<=l.length/\(m=j\/(m=j+1/\l[j]? =M .any))/\j<=m/\Mt (l.take m) (v++[c]):=by
   unfold tk at h;split at h
   .next e=>obtain⟨y,_⟩:=RA e;exact⟨j+1,jS,s? ⟨rfl,e⟩,jS,h⟩
   exact⟨j,t,r? rfl,ay _,h⟩
  obtain⟨k,x,g,o⟩:=Mt.back m z h;rcases o with⟨a,p⟩|⟨s,b,f,q,p⟩
  .refine⟨k,⟨jS,by rw[Je a,<-take_any a];exact p⟩,r? ⟨a,jS,t,λi r d=>?_⟩⟩;by_cases e:i=k
   .rw[e];exact a
   exact g i jS jS
  have A:k≠j:=by
   rcases w with e|⟨e,a⟩
   .omega
   rintro rfl;rw[a]at b;exact f (Option.some.inj b).symm
  refine⟨k,⟨jS,?_⟩,s? ⟨s,b,f,q,jS,t,λi r d=>g i jS jS⟩⟩;rw[Pk (by rw[b];exact λe=>f (Option.some.inj e))];exact p
 rintro⟨k,⟨p,h⟩,⟨a,x,g,o⟩|⟨s,b,f,q,x,g,o⟩⟩
 .refine⟨g,?_⟩;rw[Je a]at h;have d:Mt (l.take (k+1)) (v++[c]):=by rw[take_any a];exact h.IH
  by_cases e:k=j
  .subst e;rw[Je a];exact h.IH
  have n:=Mt.UZ d (j-(k+1)) λi r d=>o i jS jS;rw[show k+1+(j-(k+1))=j by omega]at n;exact n.Pj
 refine⟨g,?_⟩;obtain⟨y,B⟩:=RA b;rw[Pk (by rw[b];exact λe=>f (Option.some.inj e))]at h;have d:Mt (l.take (k+1)) (v++[c]):=by
  rw[aj y,B];exact h.append ((Mt.LV f).2 ⟨c,rfl,q⟩)
 have n:=Mt.UZ d (j-(k+1)) λi r d=>o i jS jS;rw[show k+1+(j-(k+1))=j by omega]at n;exact n.Pj
def Pl.dead{l:E Sg}:∀(w v:E O),(∀j,¬Pl l v j)->∀j,¬Pl l (v++w) j
 |[],v,h=>by rw[eB];exact h
 |c::w,v,h=>by
  have d:=Pl.dead w (v++[c]) λj b=>by
   obtain⟨k,a,_⟩:=Pl.next.1 b;exact h k a
  rwa[eH]at d
def rn(v:E y?):E O:=(cp v).map (·.1)
noncomputable def qB(p v:E y?):z?:=@decide (∃l,mu p=M l/\oJ v=t?/\Mt l (rn v)) (Classical.propDecidable _)
variable{p v:E y?}
def xP:qB p v=t?↔∃l,mu p=M l/\oJ v=t?/\Mt l (rn v):=by
 unfold qB;rw[@decide_eq_true_iff _ (Classical.propDecidable _)]
def vE(a:mu p=M l)(c:oJ v=t?):qB p v=t?↔Mt l (rn v):=by
 rw[xP];constructor
 .rintro⟨m,b,_,d⟩;rw[a]at b;cases b;exact d
 exact λh=>⟨l,a,c,h⟩
def qF9(h:mu p=M a):mP p=t?/\BT ([],u?) (cp p)=(a,u?):=by
 unfold mu at h;split at h
 .next c=>
  split at h
  .cases h
  next b=>exact⟨c,Prod.ext (Option.some.inj h) (by simpa using b)⟩
 cases h
def zK(h:mP p=t?):(cp p).length<=24:=by
 unfold mP at h;simp only[ba,D?]at h;exact h.1.2
def kX:E y?->E (E y?)
 |[]=>[[]]
 |b::t=>if b=59 then[]::kX t else(b::(kX t).headD [])::(kX t).tail
def CA:∀l:E y?,kX l≠[]
 |[]=>by simp[kX]
 |b::t=>by unfold kX;split<;>simp
def tj:∀{a:E y?},59∉a->kX a=[a]
 |[],_=>rfl
 |b::t,h=>by
  have c:b≠59:=λe=>h (by rw[e];exact di);have d:=tj (a:=t) λe=>h (dS _ e);unfold kX;rw[A? c,d];rfl
def uP:∀(a b:E y?),kX (a++59::b)=kX a++kX b
 |[],b=>by simp[kX]
 |c::a,b=>by
  have d:=uP a b;rw[dj];have e:∀t,kX (c::t)=if c=59 then[]::kX t else(c::(kX t).headD [])::(kX t).tail:=λt=>rfl
  rw[e,e,d];split
  .rfl
  cases e:kX a with
  |nil=>exact H? e (CA a)
  |cons x r=>rfl
def FN{a:E y?}(h:59∉a)(b:E y?):kX (a++59::b)=a::kX b:=by
 rw[uP,tj h];rfl
def bt(l:E y?):v?:=⟨l.toArray⟩
def vQ(l:E y?):tx (bt l)=l:=rfl
def nf(s:E y?):kI:=(bt (s.take (s.idxOf 61)),bt (s.drop (s.idxOf 61+1)))
def YU(a:E kI)(s:E y?):z?:=
 decide (61∈s)&&(decide (a.length≠4)&&(nameB (tx (nf s).1)&&(!(Ep (tx (nf s).1) (tx (pk a)))&&(mu (tx (nf s).2)).isSome)))
def ow:E kI->E (E y?)->w? (E kI)
 |acc,[]=>M acc
 |acc,s::r=>if YU acc s=t? then ow (acc++[nf s]) r else Z
def lU(s:E y?):w? (E kI):=if s=[]then M []else ow [] (kX s)
def Ge:∀(b:E (E y?))(a L:E kI),ow a b=M L->L=a++b.map nf
 |[],a,L,h=>by cases h;simp
 |s::r,a,L,h=>by
  unfold ow at h;split at h
  .have:=Ge r _ _ h;simpa using this
  cases h
def r6:∀(d c:E (E y?))(b:E kI),ow b (d++c)=(ow b d).bind λa=>ow a c
 |[],c,b=>rfl
 |s::r,c,b=>by
  rw[dj];have e:∀t,ow b (s::t)=if YU b s=t? then ow (b++[nf s]) t else Z:=λt=>rfl
  rw[e,e];split
  .exact r6 r c _
  rfl
variable{s:E y?}
def LP(hs:s≠[]){L:E kI}(h:lU s=M L):L=(kX s).map nf:=by
 unfold lU at h;rw[A? hs]at h;simpa using Ge _ _ _ h
noncomputable def allM(L set:E kI):z?:=L.all λt=>(k8 set t.1).2&&qB (tx t.2) (tx (k8 set t.1).1)
def yQ(L K set:E kI):allM (L++K) set=(allM L set&&allM K set):=gT
noncomputable def As(s:E y?)(set:E kI):z?×I:=
 match lU s with
 |none=>(u?,50)
 |some L=>if setB set=t? then(allM L set,0)else(u?,50)
def LK:Sg->jD
 |.any=>i? 342 (g? #[])
 |.one=>i? 343 (g? #[])
 |.that c=>(lz 41 c)
def Dc(s:Sg)(w:jC):jE Tryz.prog 261 #[LK s] w λe w'=>e=a? (h? (decide (s=.any)))/\Below w w w':=by
 cases s with
 |any=>
  have a:∀w,(dd (i? 342 (g? #[])) 430 342 t?).run Tryz.prog w=.ok (d? #[g? #[],h? t?]) w:=λw=>oo;show jE _ _ #[i? 342 (g? #[])] _ _;go_in;go_wp2;go_ret;exact⟨rfl,by first|exact jQ _|exact jP (jQ _) _⟩
 |one=>
  have a:∀w,(dd (i? 343 (g? #[])) 430 342 t?).run Tryz.prog w=.ok (d? #[g? #[],h? u?]) w:=λw=>oo;show jE _ _ #[i? 343 (g? #[])] _ _;go_in;go_wp2;go_ret;exact⟨rfl,by first|exact jQ _|exact jP (jQ _) _⟩
 |that c=>
  have a:∀w,(dd (lz 41 c) 430 342 t?).run Tryz.prog w=.ok (d? #[g? #[],h? u?]) w:=λw=>oo;show jE _ _ #[lz 41 c] _ _;go_in;go_wp2;go_ret;exact⟨rfl,by first|exact jQ _|exact jP (jQ _) _⟩
def NR(s:Sg)(hs:s≠.any)(d:O)(w:jC):jE Tryz.prog 262 #[LK s,c? q? (d:I)] w λe w'=>e=a? (h? (Hk s d))/\Below w w w':=by
 cases s with
 |any=>exact H? rfl hs
 |one=>
  have a:∀w,(dd (i? 343 (g? #[])) 430 343 t?).run Tryz.prog w=.ok (d? #[g? #[],h? t?]) w:=λw=>oo;show jE _ _ #[i? 343 (g? #[]),_] _ _;go_in;go_wp2;go_ret;exact⟨rfl,jP (jQ _) _⟩
 |that c=>
  have a:∀w,(dd (lz 41 c) 430 343 t?).run Tryz.prog w=.ok (d? #[g? #[],h? u?]) w:=λw=>oo;have g:∀w,(dd (lz 41 c) 430 340 u?).run Tryz.prog w=.ok (g? #[c? q? (c:I)]) w:=λw=>oo;have f:∀w,(i_ 340 (g? #[c? q? (c:I)]) 0).run Tryz.prog w=.ok (c? q? (c:I)) w:=λw=>oo;have b:((c:I)==(d:I))=(c==d):=by
   by_cases h:c=d
   .subst h;simp
   rw[beq_eq_false_iff_ne.2 h,beq_eq_false_iff_ne.2 jS]
  show jE _ _ #[lz 41 c,_] _ _;go_in;go_wp2;go_ret;exact⟨rfl,jP (jQ _) _⟩
def ro(x:Nat):Lit×DataW Unit:=(.int .i64 (x:Int),.agg [])
def Sd(L:List Nat):DataW Unit:=.map (L.map ro)
def VS(a b:Int):(iK .i64 a).sameKey (.int .i64 b)=(a==b):=by
 simp only[Lit.sameKey,true_and];rfl
def PP(a b:Nat):(iK .i64 (a:Int)).sameKey (.int .i64 (b:Int))=(a==b):=by
 rw[VS];by_cases h:a=b
 .subst h;simp
 rw[beq_eq_false_iff_ne.2 h,beq_eq_false_iff_ne.2 jS]
def has_Sd(L:List Nat)(x:Int):iL (Sd L) (.int .i64 x)=true↔∃j∈L,(j:Int)=x:=by
 show(L.map ro).any _=true↔_;rw[List.any_eq_true];constructor
 .rintro⟨p,b,h⟩;obtain⟨j,a,rfl⟩:=dq.1 b;refine⟨j,a,?_⟩;have h:(iK .i64 (j:Int)).sameKey (.int .i64 x)=true:=h;rw[VS]at h;simpa using h
 rintro⟨j,a,rfl⟩;exact⟨ro j,dq.2 ⟨j,a,rfl⟩,by show(iK .i64 (j:Int)).sameKey _=true;rw[PP];simp⟩
def xy:E O->O->E O
 |[],k=>[k]
 |x::m,k=>if x<k then x::xy m k else if x=k then k::m else k::x::m
def tL:∀(L:E O)(k j:O),j∈xy L k↔j=k\/j∈L
 |[],k,j=>by simp[xy]
 |x::m,k,j=>by
  unfold xy;split
  .rw[cw,tL m k j,cw];constructor
   .rintro(h|h|h)
    .exact s? (r? h)
    .exact r? h
    exact s? (s? h)
   rintro(h|h|h)
   .exact s? (r? h)
   .exact r? h
   exact s? (s? h)
  split
  .next e=>subst e;simp
  simp
def xw:∀{L:E O}(k:O),L.Pairwise (·< ·)->(xy L k).Pairwise (·< ·)
 |[],k,_=>List.pairwise_singleton _ _
 |x::m,k,h=>by
  obtain⟨c,f⟩:=b6.1 h;unfold xy;split
  .next b=>
   refine b6.2 ⟨λy a=>?_,xw k f⟩;rcases(tL m k y).1 a with rfl|a
   .exact b
   exact c y a
  split
  .next e=>subst e;exact h
  next b d=>
  refine b6.2 ⟨λy a=>?_,h⟩;rcases cw.1 a with rfl|a
  .omega
  have:=c y a;omega
def tz:∀(L:E O)(a N:O),L.Pairwise (·< ·)->(∀j∈L,a<=j/\j<=N)->L.length<=N+1-a
 |[],a,N,_,_=>be _
 |x::m,a,N,h,b=>by
  obtain⟨d,e⟩:=b6.1 h;have f:=b x di;have:=tz m (x+1) N e λj c=>⟨d j c,(b j (dS _ c)).2⟩;rw[c_];omega
def uX:∀{m:List Nat},(∀x∈m,k<x)->fC (ro k) (m.map ro)=ro k::m.map ro
 |[],_=>rfl
 |x::m,h=>by
  have a:=h x di;have:(ro k).1.before (ro x).1=true:=by simp[ro,Lit.before];omega
  simp[fC,this]
def UA(m:List Nat)(k:Nat):(m.map ro).filter (λp=> !p.1.sameKey (.int .i64 (k:Int)))=(m.filter λx=>x !=k).map ro:=by
 induction m with
 |nil=>rfl
 |cons x m a=>
  simp only[df,eC,a];have:(ro x).1.sameKey (.int .i64 (k:Int))=(x==k):=PP _ _;rw[this]
  cases h:x==k<;>simp[bne,h]
def wJ{m:E O}(h:∀x∈m,x≠k):(m.filter λx=>x !=k)=m:=eY.2 λx a=>by simp[h x a]
def yG(k:Nat):∀{m:List Nat},m.Pairwise (·< ·)->fC (ro k) ((m.filter λx=>x !=k).map ro)=(xy m k).map ro
 |[],_=>rfl
 |x::m,h=>by
  obtain⟨j,n⟩:=b6.1 h;rcases Nat.lt_trichotomy x k with f|c|e
  .have d:(x !=k)=true:=mO;have b:(ro k).1.before (ro x).1=false:=by simp[ro,Lit.before];omega
   rw[eC,d,if_pos rfl,df,fC,b,if_neg lV,yG k n,xy,if_pos f,df]
  .have d:(x !=k)=false:=by simp[c]
   have g:∀y∈m,k<y:=λy a=>by have:=j y a;omega
   rw[eC,d,if_neg lV,wJ (λy a=>by have:=g y a;omega),uX g,xy,if_neg jS,if_pos c,df]
  have g:∀y∈x::m,k<y:=λy a=>by
   rcases cw.1 a with rfl|l
   .exact e
   have:=j y l;omega
  rw[wJ (λy a=>by have:=g y a;omega),uX g,xy,if_neg jS,if_neg jS,df,df,df]
variable{L:E O}
def Yj(h:L.Pairwise (·< ·))(k:Nat):(Sd L).put (.int .i64 (k:Int)) (.agg [])=Sd (xy L k):=by
 show jy (fC (ro k) ((L.map ro).filter λp=> !p.1.sameKey (.int .i64 (k:Int))))=jy _;rw[UA,yG k h]
def Sm(w:jC)(N B:O)(L:E O):Prop:=w.ownsMap Tryz.prog 3 (unitElem (H:=Unit)) B (N+1) (Sd L)/\L.Pairwise (·< ·)/\∀j∈L,j<=N
def Q6:Maps.Keyed Tryz.prog 3:=Maps.int_keyed Tryz.underlying3
variable{N:O}
def wfP(a:k<=N)(b:N<=100000):(iK o? (k:I)).wf=t?:=WalkArith.wf_i64 (by constructor<;>omega)
def Sm.made(w:jC)(N:Nat):Sm (w.alloc (.map #[] 0)) N w []:=
 ⟨World.ownsMap.mono (World.ownsMap_made w Tryz.prog 3 (unitElem (H:=Unit))) (be _),List.Pairwise.nil,λj a=>by cases a⟩
variable{w:jC}{B n:O}
def Nq{m:O}{D:DataW Unit}(h:w.ownsMap Tryz.prog 3 (unitElem (H:=Unit)) B n D)(b:gZ D<=m):w.ownsMap Tryz.prog 3 (unitElem (H:=Unit)) B m D:=by
 obtain⟨c,a,d,F,e,rfl⟩:=h;exact⟨c,a,d,F,by simpa[gZ,length_sorted]using b,rfl⟩
def Sm.update{w:jC}{N B k:O}{L:E O}(h:Sm w N B L)(m:N<=100000)(e:k<=N):∃w',(fG 401 (l? (M B)) (aJ k) (g? #[])).run Tryz.prog w=.ok () w'/\Sm w' N B (xy L k)/\(bY w w' B):=by
 obtain⟨n,b,g⟩:=h;have f:N+1<maxLen:=O0;obtain⟨w',l,c,o⟩:=World.ownsMap.update n Q6 Tryz.underlying401 f (f_ Tryz.underlying3 (wfP e m)) unitElem_mk;rw[Yj b]at c;have d:∀j∈xy L k,j<=N:=λj a=>by
  rcases(tL L k j).1 a with rfl|a
  .exact e
  exact g j a
 have p:=tz _ 0 N (xw k b) λj a=>⟨be _,d j a⟩;exact⟨w',l,⟨Nq c (by simpa[Sd,gZ]using p),xw k b,d⟩,o⟩
def Sm.lt{w:jC}{N B:O}{L:E O}(h:Sm w N B L):B<w.heap.size:=World.ownsMap.lt h.1
variable{w':jC}
def Sm.keep{row:w? O}(h:Sm w N B L)(b:w.grownBy w' row)(a:M B≠row):Sm w' N B L:=⟨World.ownsMap.kept h.1 b a,h.2⟩
def Sm.later(h:Sm w N B L)(a:Below w w w'):Sm w' N B L:=h.keep (kH a Z) lV
def Ta(w:jC)(B:O)(A:w? jG)(l:E Sg):Prop:=Rd w B A (l.map LK)
def Ta.keep{w w':jC}{B X:O}{A:w? jG}{l:E Sg}(h:Ta w B A l)(c:B<=w.heap.size)(a:(bY w w' X))(d:B<=X):Ta w' B A l:=
 Rd.keep h λb o e=>a.cell_far ⟨b,o,Z⟩ (by show b<_;omega) mO
def Ta.at_{w:jC}{B k:O}{A:w? jG}{l:E Sg}(h:Ta w B A l)(d:k<l.length):∃b a,A=M ⟨b,a,Z⟩/\b<B/\w.cell? ⟨b,a+k,Z⟩=M (LK l[k]):=by
 obtain⟨b,a,e,f,c⟩:=Rd.at_ h qlm;exact⟨b,a,e,f,c k _ (by rw[eD,an d];rfl)⟩
def MA{x:O}(b:x<l.length)(d:l[x]=.any)(h:Cl l k x):(Cl l k j/\j<=x+1)↔(j=x+1\/(Cl l k j/\j<=x)):=by
 constructor
 .rintro⟨a,f⟩;by_cases e:j=x+1
  .exact r? e
  exact s? ⟨a,jS⟩
 rintro(rfl|⟨a,f⟩)
 .refine⟨⟨by have:=h.1;omega,b,λi c g=>?_⟩,ay _⟩;by_cases e:i=x
  .rw[e,an b,d]
  exact h.2.2 i c jS
 exact⟨a,jS⟩
def Sf{x:O}(h:Cl l k x)(c:¬l[x]? =M .any):(Cl l k j/\j<=x)↔Cl l k j:=
 ⟨λh=>h.1,λb=>⟨b,Nat.le_of_not_lt λa=>c (b.2.2 x h.1 a)⟩⟩
def put_any(A:w? jG)(l:E Sg)(cap k B:O)(L:E O)(Q:l.length<=100000)(K:k<=l.length)(w:jC)(N:Ta w B A l)(G:Sm w l.length B L):jE Tryz.prog 251 #[l? (M B),b? A l.length cap,aJ k] w λe w'=>e=a? (d? #[])/\(∃n,Sm w' l.length B n/\∀j,j∈n↔j∈L\/Cl l k j)/\(bY w w' B):=by
 have HR:=ai N;obtain⟨w1,f,M1,R⟩:=G.update Q K;have DG:=ai M1;have W:=ai R;have hB:=G.lt;have δ:=ai (N.keep jS R (ay _));have T:=ai (Cl.self (l:=l) K);go_in;go_wp2_with fail;go_loopw[2] (λi wr=>∃x:O,i=(aJ x)/\Hid (Cl l k x)/\Hid (∃n,Sm wr l.length B n/\∀j,j∈n↔j∈L\/(Cl l k j/\j<=x))/\Hid (bY w wr B)) (λi _=>l.length-(av i).toNat)
 case atStart=>
  refine⟨k,rfl,T,⟨_,DG.out,λj=>?_⟩,W⟩;rw[tL];constructor
  .rintro(rfl|h)
   .exact s? ⟨T.out,ay _⟩
   exact r? h
  rintro(h|⟨h,h2⟩)
  .exact s? h
  exact r? (Nat.le_antisymm h2 h.1)
 obtain⟨x,rfl,y,Y,z⟩:=hrel;obtain⟨n,g,m⟩:=Y.out;have D:=HR.out.keep jS z.out (ay _);by_cases s:x<l.length
 .have d1:=F? jS;obtain⟨b,β,rfl,hb,hc⟩:=D.at_ s;have γ:(0:I)<=(x:I):=jS;have X:(x:I)<(l.length:I):=jS;have t:=ai (λw=>Dc l[x] w);by_cases r:l[x]=.any
  .have yT:=ah ((((MA s r y.out).2 (r? rfl)).1));have C:=ai (λj=>MA (j:=j) s r y.out);rw[F? r]at t;have o:=ai g;have c:=ai m;generalize LK l[x]=V at*;go_wp2_with fail;refine(t.out _).mono ?_;rintro e w2⟨rfl,a⟩;have d:=ai a;obtain⟨w3,f,J,H⟩:=(o.out.later a).update Q (k:=x+1) jS;have Fk:=ai J;have O9:=ai H;clear a J H o;have p:(x:I)+1=((x+1:O):I):=by omega
   rw[<-p]at f;clear p;go_wp2_with fail;go_roundw
   case rel=>
    refine⟨x+1,CJ,yT,⟨_,Fk.out,λj=>?_⟩,jW (jW z.out (kH d.out _)) O9.out⟩;rw[tL,c.out,C.out];constructor
    .rintro(h|h|h)
     .exact s? (r? h)
     .exact r? h
     exact s? (s? h)
    rintro(h|h|h)
    .exact s? (r? h)
    .exact r? h
    exact s? (s? h)
   exact No
  rw[E? r]at t;have F:=ai (λj=>Sf (j:=j) y.out (by rw[an s];exact λe=>r (Option.some.inj e)));have o:=ai g;have c:=ai m;generalize LK l[x]=V at*;go_wp2_with fail;refine(t.out _).mono ?_;rintro e w2⟨rfl,a⟩;have d:=ai a;go_wp2;refine bl6 (v:=d? #[]) (by simp[results,Tryz.results251,go_sem]) rfl ⟨rfl,⟨_,o.out.later d.out,λj=>?_⟩,jW z.out (kH d.out _)⟩;rw[c.out,F.out]
 have d1:=E? jS;have F:=ai (λj=>Sf (j:=j) y.out (by rw[fS jS];simp));have o:=ai g;have c:=ai m;go_wp2;refine bl6 (v:=d? #[]) (by simp[results,Tryz.results251,go_sem]) rfl ⟨rfl,⟨_,o.out,λj=>?_⟩,z.out⟩;rw[c.out,F.out]
variable{a:O}
def RI(h:l[a]? =M .any):From l c a j↔Cl l a j:=by
 constructor
 .rintro(⟨_,b⟩|⟨s,b,d,_⟩)
  .exact b
  rw[h]at b;exact H? (Option.some.inj b).symm d
 exact λb=>r? ⟨h,b⟩
def RG{s:Sg}(h:l[a]? =M s)(hs:s≠.any):From l c a j↔(Hk s c=t?/\Cl l (a+1) j):=by
 constructor
 .rintro(⟨b,_⟩|⟨t,b,g,e,d⟩)
  .rw[h]at b;exact H? (Option.some.inj b) hs
  rw[h]at b;cases b;exact⟨e,d⟩
 rintro⟨f,b⟩;exact s? ⟨s,h,hs,f,b⟩
def RH(h:l[a]? =Z):¬From l c a j:=by
 rintro(⟨b,_⟩|⟨s,b,_⟩)<;>rw[h]at b<;>cases b
def below_grown{X:O}{a:jC}(h:Below B a w)(b:(bY w w' X))(e:B<=X)(d:B<=w.heap.size):Below B a w':=
 ⟨b.os.trans h.os,b.tape.trans h.tape,b.output.trans h.output,by have:=h.size;have:=b.size;omega,λi c=>(b.block i jS mO).trans (h.block i c)⟩
def ML(l:List Sg)(c:Nat)(L b:List Nat)(left:Lit->Bool):Prop:=∀j,j∈b↔∃a∈L,left (.int .i64 (a:Int))=false/\From l c a j
def Ft(l:List Sg)(c:Nat)(L:List Nat):ML l c L [] (iL (Sd L)):=λj=>by
 constructor
 .intro h;cases h
 rintro⟨a,b,h,_⟩;rw[(has_Sd L _).2 ⟨a,b,rfl⟩]at h;cases h
variable{left:Lit->z?}
def left_step{b:Nat}:(left (.int .i64 (b:Int))&& !(iK .i64 (b:Int)).sameKey (.int .i64 (a:Int)))=false↔left (.int .i64 (b:Int))=false\/b=a:=by
 rw[PP];cases left (.int .i64 (b:Int))<;>simp
def I8{g k:List Nat}(m:a∈L)(h:ML l c L g left)(n:∀j,j∈k↔j∈g\/From l c a j):ML l c L k λz=>left z&& !z.sameKey (.int .i64 (a:Int)):=λj=>by
 rw[n,h];constructor
 .rintro(⟨b,f,e,d⟩|d)
  .exact⟨b,f,left_step.2 (.inl e),d⟩
  exact⟨a,m,left_step.2 (.inr rfl),d⟩
 rintro⟨b,f,e,d⟩;rcases left_step.1 e with e|rfl
 .exact .inl ⟨b,f,e,d⟩
 exact .inr d
def BhI(w:jC)(l:E Sg)(c:O)(B r d:O)(L:E O)(wr:jC):Prop:=
 ∃(left:Lit->z?)(cnt:O),wr.ranges Tryz.prog 3 (unitElem (H:=Unit)) B r (l.length+1) (Sd L) left cnt/\(∀a,left a=t?->iL (Sd L) a=t?)/\
  (∃b,Sm wr l.length d b/\ML l c L b left)/\Below w w wr
def Lj(A:Option jG)(l:List Sg)(cap c B:Nat)(L:List Nat)(hN:l.length<=100000)(w:jC)(hR:Ta w B A l)(hM:Sm w l.length B L):jE Tryz.prog 252 #[.map (some B),jN A l cap,.int .i32 (c:Int)] w λe w'=>∃Bn t,e=.returned (.map (some Bn))/\w.heap.size<=Bn/\Sm w' l.length Bn t/\(∀j,j∈t↔∃a∈L,From l c a j)/\Below w w w':=by
 have HR:=ah hR;have hB:=hM.lt;have HL:=ah hM.2.2;have M0:=(hM.later (jP (jQ w) (.map #[] 0))).1;have N0:=ah (Sm.made w l.length);have ω:=ah (jP (jQ w) (.map #[] 0));have hmk:(Instr.makeMap 401 none).run Tryz.prog w=.ok (.map (some w)) (w.alloc (.map #[] 0)):=oo;go_in;go_wp2_with(first
  |(at_range;refine wpList_range_own _ rfl _ 401 rfl 3 341 Q6 Tryz.underlying401 _ B (l.length+1) _ rfl M0 ?_;intro C Q η hs0)
  |go_in)
 have HI:Hid (BhI w l c B (w.heap.size+1) w L C):=by
  refine⟨iL (Sd L),gZ (Sd L),?_,λN h=>h,⟨[],N0.keep η lV,Ft l c L⟩,?_⟩
  .have e:(w.alloc (.map #[] 0)).heap.size=w.heap.size+1:=lV;rw[e]at Q;exact Q
  exact below_grown ω (η.but (some (w.heap.size+1))) jS lV
 have e:(w.alloc (.map #[] 0)).heap.size=w.heap.size+1:=lV;rw[e];go_frame;go_loopw[8] (λ_ wr=>BhI w l c B (w.heap.size+1) w L wr) (λ_ wr=>wr.rangeLeft B (w.heap.size+1))
 case atStart=>exact HI
 obtain⟨left,cnt,X,Ψ,⟨t,Θ,hW⟩,χ⟩:=hrel;have δ:=ah Ψ;have HM:=ah Θ;have HW:=ah hW;have HB:=ah χ;go_wp2_with(first
  |(at_next;refine wpList_next_ranges _ rfl _ rfl 3 Q6 (unitElem (H:=Unit)) (br .i64) (λ_:Unit=>Value.agg #[]) (λkey N h=>by obtain⟨x,e,_⟩:=Maps.keyOf_int_inv Tryz.underlying3 h;exact⟨x,e⟩) (λv y h=>⟨(),(unitElem_inv h).1⟩) B _ _ _ _ _ rfl X ?_ ?_)
  |go_in)
 .intro _ φ;have q:Hid (∀j,j∈t↔∃a∈L,From l c a j):=λj=>by
   rw[HW j];exact⟨λ⟨a,h1,_,h2⟩=>⟨a,h1,h2⟩,λ⟨a,h1,h2⟩=>⟨a,h1,φ _,h2⟩⟩
  go_wp2_with fail;go_ret;exact⟨_,t,rfl,ay _,HM,q,HB⟩
 intro x _ N y C Ω K ν _ _ m ε γ ψ hen;obtain⟨x',ex,rfl,Δ⟩:=Maps.keyOf_int_inv Tryz.underlying3 K
 cases ex
 obtain⟨a,ha,rfl⟩:=(has_Sd L x).1 (δ _ ν);have ξ:Hid (∀N,(left N&& !N.sameKey (.int .i64 (a:Int)))=true->iL (Sd L) N=true):=λN h=>δ N (Bool.and_eq_true_iff.1 h).1;have haN:=HL a ha;have F:=ah (below_grown HB γ (dU _) HB.size);have T:=ah (HM.keep γ (by simp));have s:Hid (Ta C B A l):=Rd.below HR (F.mono (Nat.le_of_lt hB));have Fl:Hid (C.rangeLeft B (w.heap.size+1)<wr.rangeLeft B (w.heap.size+1)):=by show _<_;rw[m.left_eq,X.left_eq];exact ε
 have θ:=ah m;have ρ:=ah m.left_eq;have Y:Hid (∀r W,C.grownBy W (some w)->Sm W l.length w r->(∀j,j∈r↔j∈t\/From l c a j)->BhI w l c B (w.heap.size+1) w L W/\W.rangeLeft B (w.heap.size+1)<wr.rangeLeft B (w.heap.size+1)):=λr W J R hj=>by
  have hk:=θ.kept J (by simp;omega) (by simp);refine⟨⟨_,_,hk,ξ,⟨r,R,I8 ha HW hj⟩,below_grown F J aa F.size⟩,?_⟩;rw[hk.left_eq,<-ρ];exact Fl
 have Ξ:B<=w.heap.size:=Nat.le_of_lt hB;have aV4:w.heap.size<C.heap.size:=T.lt;clear K ν X m ε γ ψ ξ F Fl θ ρ HB HM HW δ HR HL ha Δ;by_cases β:a=l.length
 .subst β;have d1:((l.length:Int)==(l.length:Int))=true:=by simp
  have q:=Y t C (World.grownBy.refl _ _) T (λj=>⟨.inl,λh=>h.elim id λh=>absurd h (RH (fS aa))⟩);have o:=ah q;clear q Y T s;go_wp2_with fail;go_roundw
  case rel=>exact o.1
  exact o.2
 have D:a<l.length:=by omega
 have d1:((a:Int)==(l.length:Int))=false:=by simp;omega
 obtain⟨b,α,rfl,hb,hc⟩:=s.at_ D;have hi1:(0:Int)<=a:=by omega
 have hi2:(a:Int)<l.length:=by omega
 have G:l[a]? =some l[a]:=an D;have QA:=ah (λw=>Dc l[a] w);have QP:Hid (∀W,Below C C W->∀k,k<=l.length->jE Tryz.prog 251 #[.map (some w),.slice (bH b α) l.length cap,jJ (k:Int)] W λe w'=>e=.returned (.tuple #[])/\(∃r,Sm w' l.length w r/\∀j,j∈r↔j∈t\/Cl l k j)/\W.grownBy w' (some w)):=λW hb k hk=>
  put_any _ l cap k w t hN hk W ((Rd.below s (hb.mono (by omega))).more Ξ) (T.later hb)
 by_cases d:l[a]=.any
 .have q:Hid (∀j,From l c a j↔Cl l a j):=λj=>RI (by rw[G,d]);rw[decide_eq_true d]at QA;clear G d T s β;generalize LK l[a]=sv at*;go_wp2_with fail;refine(QA _).mono ?_;rintro e w2⟨rfl,f⟩;have Zj:=ah (QP w2 f a (Nat.le_of_lt D));have g:=ah f;clear QP f QA;go_wp2_with fail;refine Zj.mono ?_;rintro e w3⟨rfl,⟨r,R,hj⟩,J⟩;have o:=ah (Y r w3 (jW (kH g _) J) R (λj=>by rw[hj,q]));clear R hj J Zj g Y;go_wp2_with fail;go_roundw
  case rel=>exact o.1
  exact o.2
 have q:Hid (∀j,From l c a j↔(Hk l[a] c=true/\Cl l (a+1) j)):=λj=>RG G d;have QF:=ah (λw=>NR l[a] d c w);rw[decide_eq_false d]at QA;clear G d s β
 cases hf:Hk l[a] c with
 |true=>
  rw[hf]at QF q;clear T hf;generalize LK l[a]=sv at*;go_wp2_with fail;refine(QA _).mono ?_;rintro e w2⟨rfl,f⟩;have g:=ah f;have Γ:=(f.cell (p:=⟨b,α+a,none⟩) (by show b<_;omega)).trans hc;clear f QA;go_wp2_with fail;refine(QF _).mono ?_;rintro e w3⟨rfl,z⟩;have n:=ah (Below.two g z);have Zj:=ah (QP w3 n (a+1) D);have κ:((a+1:Nat):Int)=(a:Int)+1:=by omega
  rw[κ]at Zj;clear QP z QF g κ;go_wp2_with fail;refine Zj.mono ?_;rintro e w4⟨rfl,⟨r,R,hj⟩,J⟩;have o:=ah (Y r w4 (jW (kH n _) J) R (λj=>by rw[hj,q];simp));clear R hj J Zj n Y;go_wp2_with fail;go_roundw
  case rel=>exact o.1
  exact o.2
 |false=>
  rw[hf]at QF q;clear hf QP;generalize LK l[a]=sv at*;go_wp2_with fail;refine(QA _).mono ?_;rintro e w2⟨rfl,f⟩;have g:=ah f;have Γ:=(f.cell (p:=⟨b,α+a,none⟩) (by show b<_;omega)).trans hc;go_wp2_with fail;refine(QF _).mono ?_;rintro e w3⟨rfl,z⟩;have n:=ah (Below.two g z);have o:=ah (Y t w3 (kH n _) (T.later n) (λj=>by rw[q];simp));go_wp2;go_roundw
  case rel=>exact o.1
  exact o.2
variable{t:jH}
def _root_.Go.Proofs.YtfcnedcahoifoaaGreatDoor.jR.rd{g:O}{cs:E jD}(h:jR w g t cs.toArray):Rd w w (aC g) cs:=λ_=>
 ⟨g,0,rfl,h.lt,λj u a=>by rw[au];exact h.at_ j (by simpa using a)⟩
def _root_.Go.Proofs.YtfcnedcahoifoaaGreatDoor.jR.lab{g:O}{a b:v?}(h:jR w g t #[jL a,jL b]):Lb w w (aC g) [(a,b)]:=jR.rd (cs:=[jL a,jL b]) h
def Ng(s:v?):setB [(⟨#[97]⟩,s)]=mP (tx s):=by
 have a:nameB (tx ⟨#[97]⟩)=t?:=TO;have b:Ep (tx ⟨#[97]⟩) []=u?:=TO;unfold setB chainB chainB ri;rw[a,b];simp
def PJ(s:v?):setB [(s,⟨#[]⟩)]=nameB (tx s):=by
 have a:mP (tx ⟨#[]⟩)=t?:=TO;unfold setB chainB chainB ri;rw[a]
 cases h:nameB (tx s)with
 |false=>simp
 |true=>
  have c:Ep (tx s) []=u?:=by
   cases e:tx s with
   |nil=>rw[e]at h;cases h
   |cons b t=>unfold Ep dW;simp
  rw[c];simp
def DU(s:v?)(w:jC)(hs:s.size<=4294967296)(f:Tb w):jE Tryz.prog 195 #[jL s] w λe w'=>e=a? (h? (mP (tx s)))/\Below w w w':=by
 have c:=jP (jQ w) (m? #[f? ⟨#[97]⟩,jL s] 71);have Q:=ah (j_ (aM w) [(⟨#[97]⟩,s)] 1 (λx d=>by cases eM.1 d;exact hs) _ (f.later c) (jR.new w 71 #[f? ⟨#[97]⟩,jL s]).lab);rw[Ng]at Q;have g:=ah c;show _;go_in;go_wp2_with fail;refine Q.mono ?_;rintro e h⟨rfl,b⟩;have a:=g.trans (b.mono lV);go_wp2;go_ret;exact⟨rfl,a⟩
def FR(s:v?)(w:jC)(f:Tb w):jE Tryz.prog 104 #[jL s] w λe w'=>e=a? (h? (nameB (tx s)))/\Below w w w':=by
 have c:=jP (jQ w) (m? #[jL s,aF] 71);have Q:=ah (j_ (aM w) [(s,⟨#[]⟩)] 1 (λx d=>by cases eM.1 d;exact be _) _ (f.later c) (jR.new w 71 #[jL s,aF]).lab);rw[PJ]at Q;have g:=ah c;go_in;go_wp2_with fail;refine Q.mono ?_;rintro e h⟨rfl,b⟩;have a:=g.trans (b.mono lV);go_wp2;go_ret;exact⟨rfl,a⟩
variable{e:jH}{xs:E jD}
def CT{size:O}{v:jD}{o:Obj}(h:w.ownsRow B e size v n xs)(a:w.heap[k]? =M o)(b:o.isCells=u?):v.ownBlock≠M k:=by
 rcases h.2 with⟨rfl,_⟩|⟨g,cap,d,rfl,_,c,_⟩
 .intro e;cases e
 intro e;have e:g=k:=by injection e
 subst e;rw[c]at a
 cases a
 cases b
def ww(s:v?)(q:O):w.grownBy (w.iterAt k s q) (M k):=
 ⟨rfl,rfl,rfl,by rw[Lib.iterAt_size];exact ay _,λi _ a=>Lib.iterAt_other _ _ _ _ _ (λe=>a (by rw[e]))⟩
def un{size:O}{v:jD}(h:w.ownsRow B e size v n xs):∃A c,v=b? A n c:=by
 obtain⟨A,c,e,_⟩:=lB h;exact⟨A,c,e⟩
def ol{size:O}{a W:jC}{o:Obj}{v:jD}(h:Below B a w)(d:w.ownsRow B e size v n xs)(c:B<=w.heap.size)(j:(w.alloc o).grownBy W v.ownBlock):Below B a W:=by
 have f:=h.trans ((jP (jQ w) o).mono c);exact f.trans (Co j mO λg b=>(d.lt g b).1)
def Tryz.Ra:(Tryz.prog.info? 430).map (λi=>(i.zero,i.size,i.bytes))=M (M j?,1,16):=oo
def t_(w:jC)(p:E y?)(e:bi6)(w':jC):Prop:=Below w w w'/\
 match mu p with
 |none=>e=a? (d? #[jM,h? u?])
 |some l=>∃A c,e=a? (d? #[jN A l c,h? t?])/\Ta w' w' A l
def t_.no(h:mu p=Z)(a:Below w w w'):t_ w p (a? (d? #[jM,h? u?])) w':=⟨a,by rw[h]⟩
variable{A:w? jG}
def t_.yes(h:mu p=M l)(a:n=l.length)(b:Below w w w')(d:Ta w' w' A l):t_ w p (a? (d? #[b? A n c,h? t?])) w':=⟨b,by rw[h];exact⟨A,c,by rw[a],d⟩⟩
def SgI(w:jC)(s:v?)(v:jD)(q:z?)(pos:O)(a:E (O×O))(k:O)(wr:jC):Prop:=
 wr.ownsRow w 430 1 v (BT ([],u?) a).1.length ((BT ([],u?) a).1.map LK)/\(BT ([],u?) a).2=q/\Below w w wr/\wr.heap[k]? =M (.stringIter s pos)
def CB(s:v?)(w:jC)(hs:s.size<=4294967296)(hT:Tb w):jE Tryz.prog 151 #[jL s] w (t_ w (tx s)):=by
 have QV:=ah (DU s w hs hT);obtain⟨i0,x,z,o,A⟩:=bi5 Tryz.Ra
 cases Y:mP (tx s)with
 |false=>
  have V:Hid (mu (tx s)=Z):=by show _=_;unfold mu;rw[Y];rfl
  rw[Y]at QV;go_in;go_wp2_with fail;refine QV.mono ?_;rintro e h⟨rfl,k⟩;go_wp2;go_ret2;exact t_.no V k
 |true=>
  have SO:=ah (zK Y);have Vo:Hid (mu (tx s)=if(BT ([],u?) (cp (tx s))).2=t? then Z else M (BT ([],u?) (cp (tx s))).1):=by show _=_;unfold mu;rw[B? Y]
  rw[Y]at QV;go_in;go_wp2_with fail;refine QV.mono ?_;rintro e h⟨rfl,k⟩;have J:=ah k;go_wp2_with fail;go_loopw[4,5] (λv qv wr=>∃(pos:O)(c:E (O×O))(q:z?),qv=h? q/\Hid (pK s pos c)/\Hid (SgI w s v q pos c h wr)) (λ_ _ wr=>s.size-wr.iterPos h)
  case atStart=>exact⟨0,[],u?,rfl,pK.zero s,⟨lV,r? ⟨rfl,rfl⟩⟩,rfl,J.trans ((It.mk0 h s).2.mono J.size),(It.mk0 h s).1⟩
  obtain⟨pos,c,q,rfl,HW,C⟩:=hrel;obtain⟨K,c0,rfl⟩:=un C.1;have T:Hid (wr.iterPos h.heap.size=pos):=by show _=_;simp[eR,C.2.2.2]
  have k:=J.size;by_cases hp:pos<s.size
  .have X:∀G,(fw (e? (aM h)) t? G).run Tryz.prog wr=_:=λG=>fp wr h s pos G C.2.2.2 hp;rw[tX]at X;have l:=ah (HW.next hp);obtain⟨d1,d2,d3,_⟩:=oQ (dI s pos);generalize nP (dI s pos)=d at*;have δ:Hid (SgI w s (b? K (BT ([],u?) c).1.length c0) q (pos+d.2) c h (wr.iterAt h s (pos+d.2))):=by
    obtain⟨N,o2,o3,L⟩:=C;have hk:=N.kept (ww s (pos+d.2)) (s? (CT N L rfl));exact⟨hk,o2,iq o3 k s _,iC wr _ s pos _ L⟩
   have ε:(BT ([],u?) c).1.length<=24:=by
    have h1:=DW c ([],u?);have h2:=HW.is;have h3:=SO.out;rw[h2,cd]at h3;simp only[dp]at h1;omega
   generalize wr.iterAt h.heap.size s (pos+d.2)=n at*;obtain⟨N,o2,o3,L⟩:=δ.out;have ST:BT ([],u?) (c++[d])=stepS ((BT ([],u?) c).1,q) d:=by rw[PI,<-o2]
   have y:=ai N;have R:=ai o3;have m:=ai L;have r:=o3.size;have t:=oh L;have xa:=ai (CT N L rfl);generalize(BT ([],u?) c).1=a at*;have η:∀w,(Instr.makeInterface 340 (g? #[c? q? (d.1:I)])).run Tryz.prog w=.ok (i? 340 (g? #[c? q? (d.1:I)])) w:=λw=>oo
   cases q with
   |true=>
    have f:=ah (ST.trans (by unfold stepS;rw[B? rfl]));go_wp2_with(at_builtin;refine bk3 _ rfl _ _ 277 rfl w 430 i0 j? 1 16 Tryz.underlying277 x z o A rfl B8 (b? K a.length c0) a.length _ rfl (y.alloc _) ⟨n,0,Z⟩ 1 1 [_] rfl rfl (m7 _ _ _ _ rfl) ZO O0 jS mO ?_;intro F W g b _);have j:Hid (SgI w s F u? (pos+d.2) (c++[d]) h W):=by
     refine⟨?_,by rw[f],ol R y r b,?_⟩
     .rw[f];simpa[LK]using g
     exact(b.block _ mO (λe=>xa e.symm)).trans ((Below.heap_alloc n _ _ t).trans m)
    go_wp2;go_roundw
    case rel=>exact⟨pos+d.2,c++[d],u?,rfl,l,j⟩
    have e:W.iterPos h.heap.size=pos+d.2:=by simp[eR,j.2.2.2]
    rw[T,e];omega
   |false=>
    by_cases B:d.1=42
    .have γ:((d.1:I)==42)=t?:=mO;have f:=ah (ST.trans (by unfold stepS;rw[A? lV,B? B]));go_wp2_with(at_builtin;refine bk3 _ rfl _ _ 277 rfl w 430 i0 j? 1 16 Tryz.underlying277 x z o A rfl B8 (b? K a.length c0) a.length _ rfl (y.alloc _) ⟨n,0,Z⟩ 1 1 [_] rfl rfl (m7 _ _ _ _ rfl) ZO O0 jS mO ?_;intro F W g b _);have j:Hid (SgI w s F u? (pos+d.2) (c++[d]) h W):=by
      refine⟨?_,by rw[f],ol R y r b,?_⟩
      .rw[f];simpa[LK]using g
      exact(b.block _ mO (λe=>xa e.symm)).trans ((Below.heap_alloc n _ _ t).trans m)
     go_wp2;go_roundw
     case rel=>exact⟨pos+d.2,c++[d],u?,rfl,l,j⟩
     have e:W.iterPos h.heap.size=pos+d.2:=by simp[eR,j.2.2.2]
     rw[T,e];omega
    have γ:((d.1:I)==42)=u?:=mO;by_cases H:d.1=63
    .have α:((d.1:I)==63)=t?:=mO;have f:=ah (ST.trans (by unfold stepS;rw[A? lV,A? B,B? H]));go_wp2_with(at_builtin;refine bk3 _ rfl _ _ 277 rfl w 430 i0 j? 1 16 Tryz.underlying277 x z o A rfl B8 (b? K a.length c0) a.length _ rfl (y.alloc _) ⟨n,0,Z⟩ 1 1 [_] rfl rfl (m7 _ _ _ _ rfl) ZO O0 jS mO ?_;intro F W g b _);have j:Hid (SgI w s F u? (pos+d.2) (c++[d]) h W):=by
      refine⟨?_,by rw[f],ol R y r b,?_⟩
      .rw[f];simpa[LK]using g
      exact(b.block _ mO (λe=>xa e.symm)).trans ((Below.heap_alloc n _ _ t).trans m)
     go_wp2;go_roundw
     case rel=>exact⟨pos+d.2,c++[d],u?,rfl,l,j⟩
     have e:W.iterPos h.heap.size=pos+d.2:=by simp[eR,j.2.2.2]
     rw[T,e];omega
    have α:((d.1:I)==63)=u?:=mO;by_cases D:d.1=126
    .have β:((d.1:I)==126)=t?:=mO;have f:=ah (ST.trans (by unfold stepS;rw[A? lV,A? B,A? H,B? D]));have j:Hid (SgI w s (b? K a.length c0) t? (pos+d.2) (c++[d]) h n):=⟨by rw[f];exact y,by rw[f],R,m⟩;go_wp2;go_roundw
     case rel=>exact⟨pos+d.2,c++[d],t?,rfl,l,j⟩
     have e:n.iterPos h.heap.size=pos+d.2:=by simp[eR,j.2.2.2]
     rw[T,e];omega
    have β:((d.1:I)==126)=u?:=mO;have f:=ah (ST.trans (by unfold stepS;rw[A? lV,A? B,A? H,A? D]));go_wp2_with(at_builtin;refine bk3 _ rfl _ _ 277 rfl w 430 i0 j? 1 16 Tryz.underlying277 x z o A rfl B8 (b? K a.length c0) a.length _ rfl (y.alloc _) ⟨n,0,Z⟩ 1 1 [_] rfl rfl (m7 _ _ _ _ rfl) ZO O0 jS mO ?_;intro F W g b _);have j:Hid (SgI w s F u? (pos+d.2) (c++[d]) h W):=by
     refine⟨?_,by rw[f],ol R y r b,?_⟩
     .rw[f];simpa[LK]using g
     exact(b.block _ mO (λe=>xa e.symm)).trans ((Below.heap_alloc n _ _ t).trans m)
    go_wp2;go_roundw
    case rel=>exact⟨pos+d.2,c++[d],u?,rfl,l,j⟩
    have e:W.iterPos h.heap.size=pos+d.2:=by simp[eR,j.2.2.2]
    rw[T,e];omega
  have X:∀G,(fw (e? (aM h)) t? G).run Tryz.prog wr=_:=λG=>fq wr h s pos G C.2.2.2 hp;have HE:Hid (mu (tx s)=if q=t? then Z else M (BT ([],u?) c).1):=by
   show _=_;rw[Vo,HW.done hp,C.2.1]
  have wZ:=ah (Rd.own C.1);have ZB:=ah C.2.2.1;generalize(BT ([],u?) c).1=a at*
  cases q with
  |true=>
   have V:=ah HE;go_wp2;go_ret2;exact t_.no V ZB
  |false=>
   have V:=ah HE;go_wp2;go_ret2;exact t_.yes V rfl ZB wZ
def NQ(s:v?)(w:jC)(hs:s.size<=4294967296)(d:Tb w):jE Tryz.prog 105 #[jL s] w λe w'=>e=a? (h? (mu (tx s)).isSome)/\Below w w w':=by
 have Q:=ah (CB s w hs d);go_in;go_wp2_with fail;refine Q.mono ?_;rintro e f⟨a,h⟩
 cases b:mu (tx s)with
 |none=>
  rw[b]at h;subst h;go_wp2;go_ret;exact⟨jU (by rw[b];rfl),a⟩
 |some l=>
  rw[b]at h;obtain⟨A,c,rfl,_⟩:=h;go_wp2;go_ret;exact⟨jU (by rw[b];rfl),a⟩
def Oj(h:mu p=Z):qB p v=u?:=by
 cases e:qB p v with
 |false=>rfl
 |true=>obtain⟨l,a,_⟩:=xP.1 e;rw[h]at a;cases a
def RN(h:oJ v=u?):qB p v=u?:=by
 cases e:qB p v with
 |false=>rfl
 |true=>obtain⟨l,_,a,_⟩:=xP.1 e;rw[h]at a;cases a
def Sn{a b:z?}(h:a=t?↔b=t?):a=b:=by cases a<;>cases b<;>simp_all
def RM(a:mu p=some l)(b:oJ v=true)(h:∀j,j∈L↔Pl l (rn v) j):iL (Sd L) (.int .i64 (l.length:Int))=qB p v:=
 Sn (by
  rw[has_Sd,vE a b,<-Pl.end_];constructor
  .rintro⟨j,c,e⟩;obtain rfl:j=l.length:=jS;exact(h _).1 c
  exact λd=>⟨_,(h _).2 d,rfl⟩)
def Ol{a b:E (O×O)}(d:mu p=M l)(f:oJ v=t?)(e:cp v=a++b)(h:∀j,j∈([]:E O)↔Pl l (a.map (·.1)) j):qB p v=u?:=by
 cases c:qB p v with
 |false=>rfl
 |true=>
  rw[vE d f,<-Pl.end_]at c;unfold rn at c;rw[e,dH]at c;exact H? c (Pl.dead _ _ (λj g=>by cases(h j).2 g) _)
def FtI(w:jC)(v:v?)(l:E Sg)(k b:O)(L:E O)(pos:O)(a:E (O×O))(wr:jC):Prop:=
 Sm wr l.length b L/\(∀j,j∈L↔Pl l (a.map (·.1)) j)/\w.heap.size<=b/\Below w w wr/\wr.heap[k]? =M (.stringIter v pos)
def fits_any(p v:ByteArray)(w:jC)(hp:p.size<=4294967296)(hv:v.size<=4294967296)(hT:Tb w):jE Tryz.prog 226 #[jL p,jL v] w λe w'=>e=.returned (.bool (qB (tx p) (tx v)))/\Below w w w':=by
 have QS:=ah (CB p w hp hT);have QR:Hid (∀m,Below w w m->jE Tryz.prog 173 #[jL v] m λe w'=>e=.returned (.tuple #[jJ (mc (tx v)).1,.bool (mc (tx v)).2])/\Below m m w'):=λm C=>xq v m hv (hT.later C);go_in;go_wp2_with fail;go_step3;go_wp2_with fail;refine QS.mono ?_;rintro e m⟨K,h⟩;have x:=ah K;have Zi:=ah (QR m K)
 cases o:mu (tx p)with
 |none=>
  rw[o]at h;subst h;have T:=ah (Oj (v:=tx v) o);go_wp2_with fail;(try rw[cf]);go_ret;exact⟨jU (by rw[T]),x⟩
 |some l=>
  rw[o]at h;obtain⟨A,c,rfl,hS⟩:=h;have Vo:=ah o;have HS:=ah hS;have Ur:l.length<=100000:=by
   obtain⟨D,J⟩:=qF9 o;have h3:=DW (cp (tx p)) ([],false);have h4:=zK D;rw[J]at h3;simp only[dp]at h3;omega
  cases t:oJ (tx v)with
  |false=>
   have T:=ah (RN (p:=tx p) t);have hr:mc (tx v)=(0,false):=by rw[mc,if_neg (by rw[t];simp)]
   rw[hr]at Zi;go_wp2_with fail;refine Zi.mono ?_;rintro e y⟨rfl,g⟩;go_wp2_with fail;(try rw[cf]);go_ret;exact⟨jU (by rw[T]),Below.two x g⟩
  |true=>
   have hr:mc (tx v)=(((cp (tx v)).length:Int),true):=by rw[mc,if_pos t]
   rw[hr]at Zi;have HV:=ah t;go_wp2_with fail;refine Zi.mono ?_;rintro e y⟨rfl,g⟩;have κ:=ah g;have θ:(Instr.makeMap 401 none).run Tryz.prog y=.ok (.map (some y)) (y.alloc (.map #[] 0)):=oo;have N:=jP (jQ y) (.map #[] 0);have QP:=ah (put_any A l c 0 y [] Ur (be _) (y.alloc (.map #[] 0)) ((Rd.below HS (Below.two g N)).more g.size) (Sm.made y l.length));have O_:=ah (Below.two g N);have G:=g.size;go_wp2_with fail;refine QP.mono ?_;rintro e b⟨rfl,⟨L0,β,α⟩,F⟩;have r:Hid (FtI m v l b y L0 0 [] (b.iter v 0)):=by
    have V:=(It.mk0 b v).2;refine⟨β.later V,λj=>?_,G,Below.two ?_ V,(It.mk0 b v).1⟩
    .rw[α];show _↔Pl l [] j;rw[Pl.start];simp
    exact below_grown O_ F G O_.size
   have h3:m.heap.size<=b.heap.size:=by have:=O_.size;have:=F.size;omega
   go_wp2_with fail;go_step3;go_wp2_with fail;go_loopw[9] (λmv wr=>∃(pos:Nat)(k:List (Nat×Nat))(z:Nat)(L:List Nat),mv=.map (some z)/\Hid (pK v pos k)/\Hid (FtI m v l b z L pos k wr)) (λ_ wr=>v.size-wr.iterPos b)
   case atStart=>exact⟨0,[],_,L0,rfl,pK.zero v,r⟩
   obtain⟨pos,k,z,L,rfl,HW,r⟩:=hrel;have HP:Hid (wr.iterPos b.heap.size=pos):=by show _=_;simp[eR,r.2.2.2.2]
   by_cases s:pos<v.size
   .have Y:∀B,(fw (.pointer (aM b)) true B).run Tryz.prog wr=_:=λB=>fp wr b v pos B r.2.2.2.2 s;rw[tX]at Y;have X:=ah (HW.next s);obtain⟨d1,d2,d3,_⟩:=oQ (dI v pos);generalize nP (dI v pos)=d at*;have δ:Hid (FtI m v l b.heap.size z L (pos+d.2) k (wr.iterAt b.heap.size v (pos+d.2))):=by
     obtain⟨o1,o2,o3,R,Q⟩:=r.out;have ε:some z≠some b.heap.size:=λe=>by
      obtain⟨es,γ,hh,_⟩:=o1.1;have e:z=b.heap.size:=by injection e
      rw[e,Q]at hh;cases hh
     exact⟨o1.keep (ww v (pos+d.2)) ε,o2,o3,iq R h3 v _,iC wr _ v pos _ Q⟩
    generalize wr.iterAt b.heap.size v (pos+d.2)=wi at*;obtain⟨o1,o2,o3,R,Q⟩:=δ.out;have QB:=ai (Lj A l c d.1 z L Ur wi ((Rd.below HS.out R).more o3) o1);have T:Hid (∀q n W,wi.heap.size<=q->Sm W l.length q n->(∀j,j∈n↔∃a∈L,From l d.1 a j)->(bJ wi W)->FtI m v l b.heap.size q n (pos+d.2) (k++[d]) W):=λq n W hB hm hj C=>by
     refine⟨hm,λj=>?_,by have:=R.size;omega,Below.two R C,(C.block _ (oh Q)).trans Q⟩;rw[hj,dH];show _↔Pl l (k.map (·.1)++[d.1]) j;rw[Pl.next];exact⟨λ⟨a,D,J⟩=>⟨a,(o2 a).1 D,J⟩,λ⟨a,D,J⟩=>⟨a,(o2 a).2 D,J⟩⟩
    go_wp2_with fail;refine QB.mono ?_;rintro e w4⟨q,n,rfl,hB,hm,hj,C⟩;have HF:=ah (T q n w4 hB hm hj C);have f:=hm.1;have η:gZ (Sd n)=n.length:=by simp[Sd,gZ]
    by_cases h0:n=[]
    .subst h0;have b0:(((gZ (Sd []):Nat):Int)==0)=true:=by rfl
     have HE:=ah (Ol Vo HV X.is HF.2.1);have hh:iL (Sd []) (.int .i64 (l.length:Int))=false:=rfl;go_wp2_with(first
      |(at_len;refine wpList_len_own _ rfl _ 401 rfl 3 341 Tryz.underlying401 _ q (l.length+1) _ rfl f ?_)
      |(at_lookup;refine wpList_lookup_own_unit _ rfl _ _ 401 rfl 3 341 Q6 Tryz.underlying401 oo q (l.length+1) _ rfl f _ _ rfl (f_ Tryz.underlying3 (wfP aa Ur)) ?_)
      |go_in)
     (try rw[cf]);go_ret;exact⟨jU HE.symm,Below.two x (HF.2.2.2.1)⟩
    have b0:(((gZ (Sd n):Nat):Int)==0)=false:=by
     have:n.length≠0:=λe=>h0 (da e);rw[η];simp;exact h0
    go_wp2_with(first
     |(at_len;refine wpList_len_own _ rfl _ 401 rfl 3 341 Tryz.underlying401 _ q (l.length+1) _ rfl f ?_)
     |go_in)
    go_roundw
    case rel=>exact⟨pos+d.2,k++[d],q,n,rfl,X,HF⟩
    have e:w4.iterPos b.heap.size=pos+d.2:=by simp[eR,HF.2.2.2.2]
    rw[HP,e];omega
   have Y:∀B,(fw (.pointer (aM b)) true B).run Tryz.prog wr=_:=λB=>fq wr b v pos B r.2.2.2.2 s;have HE:Hid (iL (Sd L) (.int .i64 (l.length:Int))=qB (tx p) (tx v)):=RM Vo HV (by
    unfold rn;rw[HW.done s];exact r.2.1)
   have f:=r.1.1;go_wp2_with(first
    |(at_lookup;refine wpList_lookup_own_unit _ rfl _ _ 401 rfl 3 341 Q6 Tryz.underlying401 oo z (l.length+1) _ rfl f _ _ rfl (f_ Tryz.underlying3 (wfP aa Ur)) ?_)
    |go_in)
   (try rw[cf]);go_ret;exact⟨jU HE,Below.two x r.2.2.2.1⟩
def EA:∀(l:E y?)(c:y?),gd l c=if c∈l then((l.idxOf c:O):I)else -1
 |[],c=>by simp[gd]
 |b::l,c=>by
  unfold gd;rw[EA l c,List.idxOf_cons];by_cases h:b=c
  .subst h;simp
  have f:(b==c)=u?:=by simp[h]
  have d:¬c=b:=λe=>h e.symm;rw[f];by_cases a:c∈l
  .have:¬(((l.idxOf c:O):I)== -1)=t?:=lV;simp only[a,if_true,cw,d,false_or,Bool.false_eq_true,if_false,this,cond_false];omega
  simp[a,d]
def vk(s:v?)(a b:O):tx (s.extract a b)=((tx s).take b).drop a:=by
 unfold tx;rw[ByteArray.data_extract,Array.toList_extract,List.extract_eq_take_drop,List.drop_take]
def Ht(s:v?)(i:O):s.extract 0 i=bt ((tx s).take i):=rX (by rw[vk,vQ,List.drop_zero])
def Hu(s:v?)(i:O):s.extract i s.size=bt ((tx s).drop i):=rX (by rw[vk,vQ,cl (by rw[lG];exact ay _)])
def Qz(s:v?)(c:y?)(a:c∈tx s)(hs:s.size<=4294967296)(w:jC):jE Tryz.prog 150 #[jL s,f? ⟨#[c]⟩] w λe w'=>e=a? (d? #[jL (bt ((tx s).take ((tx s).idxOf c))),jL (bt ((tx s).drop ((tx s).idxOf c+1))),h? t?])/\∃n,w'=w.drewN n:=by
 have Q:=ah (Tryz.stringslite_Index_one s c w);rw[show gd s.data.toList c=_ from EA (tx s) c,B? a]at Q;have b:=iB.2 a;rw[lG]at b;rw[<-Ht,<-Hu];generalize(tx s).idxOf c=i at*;have c1:(0:I)<=i:=jS;have c2:(i:I)<=(s.size:I):=jS;have d:(0:I)<=i+1:=jS;have h:(i:I)+1<=(s.size:I):=jS;have f:=F? c1;go_in;go_wp2_with fail;refine Q.mono ?_;rintro e g⟨rfl,rfl⟩;go_wp2;go_region_o;go_wp2;go_ret3;exact⟨rfl,1,rfl⟩
def NH(s:v?)(c:y?)(a:¬c∈tx s)(w:jC):jE Tryz.prog 150 #[jL s,f? ⟨#[c]⟩] w λe w'=>e=a? (d? #[jL s,aF,h? u?])/\∃n,w'=w.drewN n:=by
 have Q:=ah (Tryz.stringslite_Index_one s c w);rw[show gd s.data.toList c=_ from EA (tx s) c,A? a]at Q;go_in;go_wp2_with fail;refine Q.mono ?_;rintro e b⟨rfl,rfl⟩;go_wp2;go_ret3;exact⟨rfl,0,rfl⟩
def rp(s:v?)(c:y?):v?×v?×z?:=if c∈tx s then(bt ((tx s).take ((tx s).idxOf c)),bt ((tx s).drop ((tx s).idxOf c+1)),t?)else(s,⟨#[]⟩,u?)
def QU(s:v?)(c:y?)(hs:s.size<=4294967296)(w:jC):jE Tryz.prog 150 #[jL s,f? ⟨#[c]⟩] w λe w'=>e=a? (d? #[jL (rp s c).1,jL (rp s c).2.1,h? (rp s c).2.2])/\∃n,w'=w.drewN n:=by
 unfold rp;split
 .next h=>exact Qz s c h hs w
 next h=>exact NH s c h w
def zv(s:v?)(c:y?)(hs:s.size<=4294967296)(w:jC):jE Tryz.prog 103 #[jL s,f? ⟨#[c]⟩] w λe w'=>e=a? (d? #[jL (rp s c).1,jL (rp s c).2.1,h? (rp s c).2.2])/\Below w w w':=by
 have Q:=ah (QU s c hs w);generalize rp s c=q at*;go_in;go_wp2_with fail;refine Q.mono ?_;rintro e a⟨rfl,n,rfl⟩;go_wp2;go_ret3;exact⟨rfl,below_drewN (jQ w) n⟩
section
open Go.RowKit Go.Shelf
attribute [local go_sem] db
variable{l:E y?}
def Jn(h:¬(59:y?)∈l):kX l=[l]:=tj h
def Nc(h:(59:y?)∈l):kX l=l.take (l.idxOf 59)::kX (l.drop (l.idxOf 59+1)):=by
 have a:=iB.2 h;have e:l=l.take (l.idxOf 59)++59::l.drop (l.idxOf 59+1):=by
  have g:l.drop (l.idxOf 59)=59::l.drop (l.idxOf 59+1):=by
   rw[dN a,List.getElem_idxOf a]
  rw[<-g,fQ]
 have b:(59:y?)∉l.take (l.idxOf 59):=λc=>by
  obtain⟨i,d,f⟩:=iy.1 c;have:=List.not_of_lt_findIdx (p:=(·==(59:y?))) (xs:=l) (i:=i) (by have:l.idxOf 59=l.findIdx (·==(59:y?)):=rfl;omega);simp at this;exact this f
 conv=>lhs;rw[e]
 exact FN b _
abbrev Pc:={x:E y? // x.length<=4294967296}
def qn:∀(l:E y?),∀x∈kX l,x.length<=l.length
 |[],x,a=>by simp[kX]at a;rw[a];exact ay _
 |b::t,x,a=>by
  unfold kX at a;split at a
  .rcases cw.1 a with rfl|h
   .exact be _
   have:=qn t x h;simp;omega
  rcases cw.1 a with rfl|h
  .have c:(kX t).headD []∈kX t:=by
    cases e:kX t with
    |nil=>exact H? e (CA t)
    |cons y r=>exact di
   have:=qn t _ c
   simp only[c_];omega
  have:=qn t x (List.mem_of_mem_tail h);simp;omega
def Bc:∀(a:E (E y?)),(∀x∈a,x.length<=4294967296)->∃b:E Pc,b.map (·.1)=a
 |[],_=>⟨[],rfl⟩
 |x::a,h=>by
  obtain⟨b,c⟩:=Bc a λy d=>h y (dS _ d);exact⟨⟨x,h x di⟩::b,by simp[c]⟩
def DP(s p:v?)(k:I)(w:jC):jE Tryz.prog 149 #[jL s,jL p,jJ k] w λe w'=>e=a? (.func (.func 191) #[] #[.pointer (M (aE w)),jO w,.pointer (M (aG w))])/\ ((w.alloc (cQ s)).alloc (cQ p)).alloc (m? #[jJ k] 3)=w':=by
 go_in;go_wp2;go_ret;exact⟨rfl,rfl⟩
def BS(s p:v?)(w:jC):jE Tryz.prog 102 #[jL s,jL p] w λe w'=>e=a? (.func (.func 191) #[] #[.pointer (M (aE w)),jO w,.pointer (M (aG w))])/\ ((w.alloc (cQ s)).alloc (cQ p)).alloc (m? #[jJ 0] 3)=w':=by
 go_in;go_wp2_with fail;refine(DP s p 0 _).mono ?_;rintro e w'⟨rfl,rfl⟩;go_wp2;go_ret;exact⟨rfl,rfl⟩
def drop_cons{b:E Pc}{a:E y?}{r:E (E y?)}(h:(b.drop k).map (·.1)=a::r):∃d:k<b.length,(b[k]).1=a/\(b.drop (k+1)).map (·.1)=r:=by
 have d:k<b.length:=by
  rcases fB k b.length with c|c
  .exact c
  rw[ei c]at h;cases h
 rw[dN d,df]at h;injection h with c e;exact⟨d,c,e⟩
def XY(s:v?):bt (tx s)=s:=rX rfl
def Lg(w:jC)(b:O):O:=match w.cell? ⟨b,0,Z⟩with|some (f? s)=>s.size|_=>0
def Du{b:O}{s:v?}(h:jR w b t #[jL s]):Lg w b=s.size:=by unfold Lg;rw[h.one]
def Kp3(n₀ a b c:O):jC->jC->Prop:=qK n₀ λi=>i=a\/i=b\/i=c
def SpI(W:jC)(c e d:O)(b:E Pc)(J:E Pc->jC->Prop)(a:v?)(k:O)(wr:jC):Prop:=
 jR wr c 9 #[jL a]/\jR wr e 9 dF/\jR wr d 3 #[jJ 0]/\(b.drop k).map (·.1)=kX (tx a)/\J (b.take k) wr/\W.heap.size<=wr.heap.size
def PF(n:O)(hn:1<=n)(ll b o h n₀:O)(s:v?)(hs:s.size<=4294967296)(d:E Pc)(β:d.map (·.1)=kX (tx s))(α:b<n₀)(γ:o<n₀)(δ:h<n₀)(h1:b≠o)(h2:b≠h)(J Jx:E Pc->jC->Prop) (W:jC) (κ:n₀<=W.heap.size) {nJ:O} (hJ:uC (·=b) nJ J)(hY:∀c x W,J c W->c.length<d.length->bl4 cz (n-1) Tryz.prog ll #[f? (bt x.1)] W λe w=> (e=a? (h? t?)/\J (c++[x]) w/\Kp3 n₀ b o h W w)\/(e=a? (h? u?)/\Jx (c++[x]) w))(b1:jR W b 9 #[f? s]) (b2:jR W o 9 dF) (b3:jR W h 3 #[c? o? 0]) (h0:J [] W):bj2 cz n Tryz.prog 191 #[cG ll,e? (aC o),e? (aC b),e? (aC h)] W λe w=>(∃v,e=a? v)/\ ((∃ys,ys=d/\J ys w)\/(∃c,c <+: d/\Jx c w)):=by
 have HI:Hid (SpI W b o h d J s 0 W):=⟨b1,b2,b3,β,h0,ay _⟩;have hp:=b2.one;refine bj1 Tryz.func191 rfl trivial ?_ rfl;simp only[Tryz.ntmps191,xb,ao,dk];gi_wp2;gi_loopw[] (λwr=>∃(a:v?)(k:O),a.size<=4294967296/\Hid (SpI W b o h d J a k wr)) (λwr=>Lg wr b)
 case atStart=>exact⟨s,0,hs,HI⟩
 obtain⟨a,k,θ,HI⟩:=hrel;obtain⟨Q,o2,o3,V,o5,o6⟩:=HI.out;have yb:=ai (Du Q);have QI:=ai (Tryz.strings_Index_one a 59 wr);rw[show gd a.data.toList 59=_ from EA (tx a) 59]at QI;have X:=Q.one;have H:=o2.one;have x3:=o3.one;have G:=Q.lt;have T:=o2.lt;have z3:=o3.lt;have m:=ai Q;have j:=ai o2;have p:=ai o3;by_cases z:(59:y?)∈tx a
 .rw[B? z]at QI;have hi:=iB.2 z;rw[lG]at hi;rw[Nc z]at V;obtain⟨hk,Y,N⟩:=drop_cons V;have L:=aj hk;have B:=hY (d.take k) d[k] wr o5 mO;rw[Y,<-L,<-Ht a]at B;rw[<-vQ ((tx a).drop ((tx a).idxOf 59+1)),<-Hu a]at N;generalize(tx a).idxOf 59=i at*;have HE:=ai N;have A:Hid ((a.extract (i+1) a.size).size<a.size):=by
   show _<_;rw[<-lG,vk,dr,cv,lG];omega
  have c0:decide ((i:I)<0)=u?:=lV;have c1:(0:I)<=(i:I):=jS;have c2:(i:I)<=(a.size:I):=jS;have c3:(0:I)<=(i:I)+1:=jS;have c4:(i:I)+1<=(a.size:I):=jS;obtain⟨fn,F,l,C,R,y⟩:=B;gi_wp2_with fail;refine⟨trivial,?_⟩;refine(jI.2 QI.out).mono ?_;rintro e w'⟨rfl,rfl⟩;gi_wp2_with fail;refine y.mono ?_;rintro e W3(⟨rfl,q,g⟩|⟨rfl,f⟩)
  .have K:=ai (m.out.onP g α (r? rfl));have t:=ai (j.out.onP g γ (s? (r? rfl)));have Lw:=ai (p.out.onP g δ (s? (s? rfl)));have ε:=g.1;have X:=K.out.one;have H:=t.out.one;have f1:=K.out.frozen 0;have G:=K.out.lt;have T:=t.out.lt;have HN:Hid (SpI W b o h d J (a.extract (i+1) a.size) (k+1) (W3.setCell ⟨b,0,Z⟩ (f? (a.extract (i+1) a.size)))):=
    ⟨K.out.kY 0 _,t.out.far (by show o≠b;omega) _,Lw.out.far (by show h≠b;omega) _,HE.out,hJ _ _ _ (M b) q (k6 _ _ _ _) (λr e=>r? (by cases e;rfl)),by simp[bj];omega⟩
   gi_wp2_with fail;go_roundw
   case rel=>exact⟨a.extract (i+1) a.size,k+1,by have:=A.out;omega,HN⟩
   rw[yb.out,Du HN.out.1];exact A.out
  clear R y m j p X H x3 G T z3;gi_wp2_with fail;refine jF (bj7 rfl _ _ _) rfl ?_;exact⟨⟨_,rfl⟩,s? ⟨_,eS _ _,f⟩⟩
 rw[A? z]at QI;rw[Jn z]at V;obtain⟨hk,Y,N⟩:=drop_cons V;have L:=aj hk;have hl:d.length<=k+1:=by
  have:=C? ez N;rw[ax,dr,dp]at this;omega
 rw[cl hl]at L;have B:=hY (d.take k) d[k] wr o5 mO;rw[Y,<-L,XY]at B;obtain⟨fn,F,l,C,R,y⟩:=B;gi_wp2_with fail;refine⟨trivial,?_⟩;refine(jI.2 QI.out).mono ?_;rintro e w'⟨rfl,rfl⟩;gi_wp2_with fail;refine y.mono ?_;rintro e W3(⟨rfl,q,g⟩|⟨rfl,f⟩)
 .clear R y m j p X H x3 G T z3;gi_wp2_with fail;go_end0;exact⟨⟨_,rfl⟩,r? ⟨_,rfl,q⟩⟩
 clear R y m j p X H x3 G T z3;gi_wp2_with fail;go_end0;exact⟨⟨_,rfl⟩,s? ⟨_,List.prefix_refl _,f⟩⟩
def FM(n:O)(l:1<=n)(a d c:O)(s:v?)(hs:s.size<=4294967296)(b:E Pc)(f:b.map (·.1)=kX (tx s))(q:a≠d)(y:a≠c)(w:jC)(h:jR w a 9 #[jL s]) (j:jR w d 9 dF) (k:jR w c 3 #[jJ 0]):x_ (·=a) cz n Tryz.prog 191 #[jO d,jO a,jO c] (λx:Pc=>#[jL (bt x.1)]) (Kp3 w a d c) (λv=>v=b) (λg=>g <+: b) b.length w:=λt J r W e m _ o p=>
 PF n l t a d c w s hs b f h.lt j.lt k.lt q y J r W e.size m o (h.later e) (j.later e) (k.later e) p
end
section
open Go.RowKit Go.Shelf
attribute [local go_sem] db
def Tryz.Q_:(Tryz.prog.info? 214).map (λi=>(i.zero,i.size,i.bytes))=M (M (g? #[aF,aF]),2,32):=oo
def Lp(a:E Pc):E kI:=a.map λx=>nf x.1
def Ps(a:E Pc):E (E y?):=a.map (·.1)
def SE(a:E Pc):(Lp a).length=a.length:=by simp[Lp]
def E7(a:E Pc)(x:Pc):Lp (a++[x])=Lp a++[nf x.1]:=by simp[Lp]
def Nm{a:E Pc}(h:ow [] (Ps a)=M (Lp a))(x:Pc):ow [] (Ps (a++[x]))=if YU (Lp a) x.1=t? then M (Lp (a++[x]))else Z:=by
 have e:Ps (a++[x])=Ps a++[x.1]:=by simp[Ps]
 rw[e,r6,h,E7];rfl
def ReI(w:jC)(n₀:O)(a:E Pc)(W:jC):Prop:=
 (∃b,jR W w 159 #[b]/\W.ownsRow n₀ 214 2 b a.length (k_ (Lp a)))/\jR W (w.heap.size+1) 4 #[h? t?]/\jR W (aN w) 9 #[jL (pk (Lp a))]/\ow [] (Ps a)=M (Lp a)/\Below w w W
def ReX(w:jC)(c:bk9)(a:E Pc)(W:jC):Prop:=
 c=.exit 0/\jR W (w.heap.size+1) 4 #[h? u?]/\ow [] (Ps a)=Z/\Below w w W
def Vf{n₀ Bd:O}(d:w.heap.size<=Bd):bj3 Bd (ReI w n₀):=by
 rintro s W o j⟨⟨g,h,n⟩,f,m,l,c⟩ b a;exact⟨⟨g,h.kept b (λr e=>(a r e).2),tK n b (λr e=>(a r e).2)⟩,f.kept b (λr e=>(a r e).2),m.kept b (λr e=>(a r e).2),l,c.grown b c.size (λk e=>a_ d (a k e).1)⟩
def Ve{c:bk9}{Bd:O}(g:w.heap.size<=Bd):bj3 Bd (ReX w c):=by
 rintro s W m l⟨j,h,f,d⟩ a b;exact⟨j,h.kept a (λr e=>(b r e).2),f,d.grown a d.size (λk e=>a_ g (b k e).1)⟩
def ah1{n₀ b:O}(m:w.heap.size+2<b)(o:b<n₀):sG (·=b) (ReI w n₀):=by
 rintro s W n r⟨⟨h,l,d⟩,j,f,g,c⟩ a rfl;refine⟨⟨h,l.grown a mO,d.kept a (s? λe=>?_)⟩,j.grown a mO,f.grown a mO,g,c.grown a c.size (λk e=>TP)⟩;have:=(tJ d _ e).1;omega
def ah0{c:bk9}{a:O}(l:w.heap.size+2<a):sG (·=a) (ReX w c):=by
 rintro s W j r⟨g,h,f,b⟩ d rfl;exact⟨g,h.grown d mO,f,b.grown d b.size (λk e=>TP)⟩
def pW(w:jC)(s:E y?)(e:bi6)(w':jC):Prop:=Below w w w'/\
 match lU s with
 |none=>e=a? (d? #[jM,h? u?])
 |some L=>∃A c,e=a? (d? #[jN A L c,h? t?])/\Lb w' w' A L
def pW.no(h:lU s=Z)(a:Below w w w'):pW w s (a? (d? #[jM,h? u?])) w':=⟨a,by rw[h]⟩
variable{L:E kI}
def pW.yes(h:lU s=M L)(a:n=L.length)(b:Below w w w')(d:Lb w' w' A L):pW w s (a? (d? #[b? A n c,h? t?])) w':=⟨b,by rw[h];exact⟨A,c,by rw[a],d⟩⟩
variable{x:E y?}
def Oz(h:(61:y?)∈x):rp (bt x) 61=((nf x).1,(nf x).2,t?):=by
 unfold rp;rw[vQ,B? h];rfl
def UM(h:¬(61:y?)∈x):rp (bt x) 61=(bt x,⟨#[]⟩,u?):=by
 unfold rp;rw[vQ,A? h]
def rZ:∀l:E y?,(kX l).length<=l.length+1
 |[]=>ay _
 |b::t=>by
  have a:=rZ t;unfold kX;split
  .simp only[c_];omega
  simp only[c_,List.length_tail];omega
def TG(s:ByteArray)(ρ:tx s≠[])(hs:s.size<=4294967296)(w:jC)(hT:Tb w):bj2 cz 6 Tryz.prog 75 #[.string s] w (pW w (tx s)):=by
 have T:Below w w (((w.alloc (.cells #[jM] 159)).alloc cW).alloc (.cells #[aF] 9)):=jP (jP (jP (jQ _) _) _) _;have X:=ah (((jR.new w 159 #[jM]).alloc cW).alloc (.cells #[aF] 9));have Y:=ah ((tZ w (.cells #[jM] 159) 4 #[.bool true]).alloc (.cells #[aF] 9));have Z:=ah (Bl w (.cells #[jM] 159) cW 9 #[aF]);have HT:=ah hT;have ν:Hid (lU (tx s)=ow [] (kX (tx s))):=by show _=_;unfold lU;rw[if_neg ρ]
 have d0:(s.toList==([]:List UInt8))=false:=by rw[km];simpa using ρ
 obtain⟨zs,γ⟩:=Bc (kX (tx s)) (λx hx=>by have:=qn _ x hx;rw[lG]at this;omega);have HZ:=ah γ;have Zn:∀(x:Pc){n:Nat},n<zs.length->n<=4294967296:=λx n h=>by
  have h1:=congrArg ez γ;have h2:=rZ (tx s);rw[ax]at h1;rw[lG]at h2;omega
 clear hT γ;refine bi7 Tryz.func75 rfl trivial ?_ rfl;simp only[Tryz.ntmps75,xb,ao,dk];refine bi4.2 ?_;go_wp2_with fail;go_step3;go_wp2_with fail;go_step3;generalize((w.alloc (.cells #[jM] 159)).alloc cW).alloc (.cells #[aF] 9)=o at*;go_wp2_with fail;refine(BS _ _ _).mono ?_;rintro e w'⟨rfl,rfl⟩;have z:=jP (jP (jP (jQ o) (cQ s)) (.cells dF 9)) (.cells #[jJ 0] 3);have B1:=ah (((jR.new o 9 #[jL s]).alloc (.cells dF 9)).alloc (.cells #[jJ 0] 3));have B2:=ah ((tZ o (cQ s) 9 dF).alloc (.cells #[jJ 0] 3));have B3:=ah (Bl o (cQ s) (.cells dF 9) 3 #[jJ 0]);have xz:=X.lt;have yz:=Y.lt;have zz:=Z.lt;replace X:=ah (X.later z);replace Y:=ah (Y.later z);replace Z:=ah (Z.later z);replace T:=Below.two T z;clear z;go_wp2_with fail;generalize((o.alloc (cQ s)).alloc (.cells dF 9)).alloc (.cells #[jJ 0] 3)=V at*;have b1z:=B1.lt;have b2z:=B2.lt;have b3z:=B3.lt;have hst:ReI w V [] V:=⟨⟨_,X,dY _ _ _ _⟩,Y,Z,rfl,T⟩;refine(bi4 (n:=6)).1 ?_;refine yy (q:=(·=o.heap.size)) rfl (by omega) (gf:=191) (lb:=#[.pointer (some (aE o)),jO o,.pointer (some (aG o))]) rfl trivial (enters_of Tryz.func191 (by kernel_rfl) rfl)
  (FM 5 (by omega) o (dE o) (aN o) s hs zs HZ (by omega) (by omega) V B1 B2 B3)
  (λh k=>lJ h k) (zm (by omega)) (Below.refl _ _) (λ_=>rfl) (λr h=>by omega)
  (ReI w V.heap.size) (ReX w) (Vf (by omega)) (λc=>Ve (by omega)) (ah1 (by omega) b1z) (λc=>ah0 (by omega)) hst
  (λx=>{tmps:=#[.string s,undef,.slice none 0 0,.bool false,aV w,.pointer (some (aE w)),.pointer (some (aG w)),.string (bt x.1),undef,undef,undef,.string s,.bool false,.string s,
   .func (.func 191) #[] #[.pointer (some (aE o)),aV o,.pointer (some (aG o))],.string (bt x.1),undef,undef,undef,undef,undef,undef,undef,undef,undef,undef,undef,undef,undef,undef,undef,undef,undef,undef,undef,undef,undef,undef,undef,undef,undef,undef,undef,undef,undef,undef,undef,undef,undef,undef,undef,undef,undef,undef],defers:=[]})
  ?assign ?body ?done ?stop
 case assign=>
  intro l x W K hK;gi_wp2;exact hK
 case body=>
  rintro l' b x W⟨⟨lv,hX,hO⟩,hY,hZ,Q,hb⟩ hbz Ω;have y:=ah hX;have J:=ah hO;have m:=ah hY;have d:=ah hZ;have F:=ah hb;have L:=ah (Nm Q x);have G:bj4 W W:=gq _;have KP:Hid (Kp3 V o (dE o) (aN o) W W):=sr _ _ _;have R:=HT.later hb;have hVW:V.heap.size<=W.heap.size:=jS;have φ:=x.2;have SP:=SE b;have SO:Hid (k_ (Lp (b++[x]))=k_ (Lp b)++[.string (nf x.1).1,.string (nf x.1).2]):=by show _=_;rw[E7,AW]
  have Fl:Hid (pk (Lp (b++[x]))=(nf x.1).1):=by show _=_;rw[E7,yD]
  have QC:=ah (λw=>zv (bt x.1) 61 (by rw[<-lG,vQ];exact φ) w);have ε:(b++[x]).length=b.length+1:=lV;obtain⟨A0,c0,rfl⟩:=un J;by_cases hm:(61:UInt8)∈x.1
  .rw[Oz hm]at QC;have wZ:Hid (YU (Lp b) x.1=(decide (b.length≠4)&&(nameB (tx (nf x.1).1)&&(!(Ep (tx (nf x.1).1) (tx (pk (Lp b))))&&(mu (tx (nf x.1).2)).isSome)))):=by
    show _=_;unfold YU;rw[decide_eq_true hm,eF,SP]
   have η:(nf x.1).2.size<=4294967296:=by
    show(bt _).size<=_;rw[<-lG,vQ,dr];omega
   rw[wZ]at L;generalize nf x.1=it at*
   obtain⟨H,pt⟩:=it;simp only at QC η SO Fl L;generalize pk (Lp b)=pv at*
   obtain⟨bn,ξ⟩:∃q,nameB (tx H)=q:=⟨_,rfl⟩;obtain⟨bp,θ⟩:∃q,(mu (tx pt)).isSome=q:=⟨_,rfl⟩;have QN:Hid (∀o,Tb o->jE Tryz.prog 104 #[jL H] o λe w'=>e=.returned (.bool bn)/\Below o o w'):=λo h=>by have:=FR H o h;rwa[ξ]at this
   have QP:Hid (∀o,Tb o->jE Tryz.prog 105 #[jL pt] o λe w'=>e=.returned (.bool bp)/\Below o o w'):=λo h=>by have:=NQ pt o η h;rwa[θ]at this
   rw[ξ,θ]at L;have Te:Hid (Ep (tx H) (tx pv)=(dW H.toList pv.toList||H.toList==pv.toList)):=by show _=_;rw[km,km];rfl
   rw[Te]at L;have x0:=y.one;have fx:=y.frozen 0;have y0:=m.one;have fy:=m.frozen 0;have z0:=d.one;have fz:=d.frozen 0;have zx:=y.lt;have zy:=m.lt;have zw:=d.lt;gi_wp2_with fail;refine⟨trivial,?_⟩;refine(d_ l' (jI.2 (QC.out _))).mono ?_;rintro e W1⟨rfl,f⟩;have Z3:=f.size;replace KP:=ah (lJ KP (kW jS f));replace y:=ah (y.later f);replace m:=ah (m.later f);replace d:=ah (d.later f);replace J:=ah (lf J f);replace F:=ah (Below.two F f);replace G:=G.trans (ky f);replace R:=R.later f;have x0:=y.one;have fx:=y.frozen 0;have y0:=m.one;have fy:=m.frozen 0;have z0:=d.one;have fz:=d.frozen 0;have zx:=y.lt;have zy:=m.lt;have zw:=d.lt;by_cases h4:b.length=4
   .have g:Hid (ow [] (Ps (b++[x]))=none):=by show _=_;rw[L,decide_eq_false (by simpa using h4)];rfl
    have d4:((b.length:Int)==4)=true:=mO;gi_wp2_with fail;refine⟨trivial,?_⟩;gi_wp2_with fail;refine⟨trivial,?_⟩;gi_wp2_with fail;exact⟨G.trans (b7 _ _ _),rfl,m.kY 0 _,g,F.setCell (dU _) _⟩
   have d4:((b.length:Int)==4)=false:=mO;rw[decide_eq_true (show b.length≠4 from h4),eF]at L;gi_wp2_with fail;refine⟨trivial,?_⟩;refine(d_ l' (jI.2 (QN _ R))).mono ?_;rintro e W2⟨rfl,C⟩;have aG6:=C.size;replace KP:=ah (lJ KP (kW jS C));replace y:=ah (y.later C);replace m:=ah (m.later C);replace d:=ah (d.later C);replace J:=ah (lf J C);replace F:=ah (Below.two F C);replace G:=G.trans (ky C);replace R:=R.later C;have x0:=y.one;have fx:=y.frozen 0;have y0:=m.one;have fy:=m.frozen 0;have z0:=d.one;have fz:=d.frozen 0;have zx:=y.lt;have zy:=m.lt;have zw:=d.lt
   cases bn with
   |false=>
    have g:Hid (ow [] (Ps (b++[x]))=none):=by show _=_;rw[L];rfl
    gi_wp2_with fail;refine⟨trivial,?_⟩;gi_wp2_with fail;exact⟨G.trans (b7 _ _ _),rfl,m.kY 0 _,g,F.setCell (dU _) _⟩
   |true=>
    cases c1:dW H.toList pv.toList with
    |true=>
     have g:Hid (ow [] (Ps (b++[x]))=none):=by show _=_;rw[L,c1];rfl
     gi_wp2_with fail;refine⟨trivial,?_⟩;gi_wp2_with fail;exact⟨G.trans (b7 _ _ _),rfl,m.kY 0 _,g,F.setCell (dU _) _⟩
    |false=>
     cases c2:(H.toList==pv.toList)with
     |true=>
      have g:Hid (ow [] (Ps (b++[x]))=none):=by show _=_;rw[L,c1,c2];rfl
      gi_wp2_with fail;refine⟨trivial,?_⟩;gi_wp2_with fail;exact⟨G.trans (b7 _ _ _),rfl,m.kY 0 _,g,F.setCell (dU _) _⟩
     |false=>
      gi_wp2_with fail;refine⟨trivial,?_⟩;refine(d_ l' (jI.2 (QP _ R))).mono ?_;rintro e W3⟨rfl,B⟩;have aG5:=B.size;replace KP:=ah (lJ KP (kW jS B));replace y:=ah (y.later B);replace m:=ah (m.later B);replace d:=ah (d.later B);replace J:=ah (lf J B);replace F:=ah (Below.two F B);replace G:=G.trans (ky B);replace R:=R.later B;have x0:=y.one;have fx:=y.frozen 0;have y0:=m.one;have fy:=m.frozen 0;have z0:=d.one;have fz:=d.frozen 0;have zx:=y.lt;have zy:=m.lt;have zw:=d.lt
      cases bp with
      |false=>
       have g:Hid (ow [] (Ps (b++[x]))=none):=by show _=_;rw[L,c1,c2];rfl
       gi_wp2_with fail;exact⟨G.trans (b7 _ _ _),rfl,m.kY 0 _,g,F.setCell (dU _) _⟩
      |true=>
       have ω:Hid (ow [] (Ps (b++[x]))=some (Lp (b++[x]))):=by show _=_;rw[L,c1,c2];rfl
       obtain⟨i0,hi0,Δ,Ψ,Θ⟩:=bi5 Tryz.Q_;have z:=jP (jQ W3) (.cells #[jL H,jL pt] 214);have NB:=ah (jR.new W3 214 #[jL H,jL pt]);have HX4:=ah (y.later z);have HY4:=ah (m.later z);have HZ4:=ah (d.later z);have IS:=ah (lf J z);have κ:=ah (Below.two F z);have KO4:=G.trans (ky z);have ψ:=ah (lJ KP (kW jS z));have hs4:V.heap.size<=(W3.alloc (.cells #[jL H,jL pt] 214)).heap.size:=mO;have A:=tJ IS;have hp4:=Zn x Ω;gi_wp2_with(gi_at_builtin;refine wpListIn_append_own _ rfl _ _ 159 rfl V 214 i0 (.agg #[aF,aF]) 2 32 Tryz.underlying159 hi0 Δ Ψ Θ rfl B8 (.slice A0 b.length c0) b.length _ rfl IS ⟨W3,0,none⟩ 1 1 [jL H,jL pt] rfl rfl (λj u hj=>by have:=NB.at_ (i:=j) (v:=u) (by simpa using hj);rw[addr_add];simpa using this) (by intro u hu;simp at hu;rcases hu with rfl|rfl<;>rfl) O0 jS hs4 ?_;intro v' W5 N p _;obtain⟨A5,c5,rfl⟩:=un N;have β:=ah (HX4.grown p (λe=>by have:=(A _ e.symm).1;omega));have Γ:=ah (HY4.grown p (λe=>by have:=(A _ e.symm).1;omega));have yX:=ah (HZ4.grown p (λe=>by have:=(A _ e.symm).1;omega));have x5:=β.one;have fx5:=β.frozen 0;have z5:=yX.one;have fz5:=yX.frozen 0;have zx5:=β.lt;have zz5:=yX.lt);have Wa:=tJ N;have y_:=κ.grown p κ.size (λr hr=>by have:=(A r hr).1;have:=T.size;omega);have χ:=KO4.trans (sn p (λk e=>by obtain⟨_,c,fz,hc⟩:=A k e;exact⟨c,_,fz,hc⟩));have KP5:=ah (lJ ψ ⟨p.size,λi hi _=>p.block i jS (λe=>by have:=(A i e.symm).1;omega)⟩);have o1:=bj0 N (a:=⟨w,0,none⟩) (λe=>by have:=(Wa _ e).1;simp only at this;omega) (.slice A5 (b.length+1) c5);have o2:=bj0 o1 (a:=(aG w)) (λe=>by have:=(Wa _ e).1;simp only at this;omega) (.string H);refine⟨(χ.trans (b7 _ _ _)).trans (b7 _ _ _),lJ (lJ KP5 (uw jS)) (uw jS),⟨.slice A5 (b.length+1) c5,(β.kY 0 _).far (by show w.heap.size≠w.heap.size+1+1;omega) _,?_⟩,(Γ.far (by show(dL w);omega) _).far (by show w.heap.size+1≠w.heap.size+1+1;omega) _,?_,ω,(y_.setCell aa _).setCell (by show(aU w);omega) _⟩
       .rw[ε,SO];exact o2
       rw[Fl];exact(yX.far (by show w.heap.size+1+1≠w.heap.size;omega) _).kY 0 _
  rw[UM hm]at QC;have g:Hid (ow [] (Ps (b++[x]))=none):=by
   show _=_;rw[L];unfold YU;rw[decide_eq_false hm,eO];rfl
  have x0:=y.one;have fx:=y.frozen 0;have y0:=m.one;have fy:=m.frozen 0;have z0:=d.one;have fz:=d.frozen 0;have zx:=y.lt;have zy:=m.lt;have zw:=d.lt;gi_wp2_with fail;refine⟨trivial,?_⟩;refine(d_ l' (jI.2 (QC _))).mono ?_;rintro e W1⟨rfl,f⟩;have Z3:=f.size;replace KP:=ah (lJ KP (kW jS f));replace y:=ah (y.later f);replace m:=ah (m.later f);replace d:=ah (d.later f);replace J:=ah (lf J f);replace F:=ah (Below.two F f);replace G:=G.trans (ky f);replace R:=R.later f;have x0:=y.one;have fx:=y.frozen 0;have y0:=m.one;have fy:=m.frozen 0;have z0:=d.one;have fz:=d.frozen 0;have zx:=y.lt;have zy:=m.lt;have zw:=d.lt;gi_wp2_with fail;refine⟨trivial,?_⟩;gi_wp2_with fail;refine⟨trivial,?_⟩;gi_wp2_with fail;exact⟨G.trans (b7 _ _ _),rfl,m.kY 0 _,g,F.setCell (dU _) _⟩
 case done=>
  rintro D ys W hD rfl⟨⟨lv,hX,hO⟩,hY,_,Q,hb⟩ hK;have HE:Hid (lU (tx s)=some (Lp ys)):=by
   show _=_;rw[ν,<-HZ];exact Q
  obtain⟨A0,c0,rfl⟩:=un hO;have x0:=hX.one;have y0:=hY.one;have F:=ah hb;have J:=ah hO;have HK:=ah hK;go_wp2;try rw[cf]
  have Ξ:Hid (∀o',Lb (W.putObj D o') (W.putObj D o').heap.size A0 (Lp ys)):=λo'=>Rd.own (tK J (bj5 W D o') (λr e=>by cases e;exact⟨_,HK,rfl⟩));refine⟨lV,.inl ⟨_,_,rfl,bi2 HK,?_⟩⟩;exact⟨.tuple #[jN A0 ys c0,.bool true],by simp[results,Tryz.results75,go_sem],pW.yes HE (SE ys).symm (F.trans (bj6 (w:=w) aa _ D _ _ jS HK rfl rfl)) (Ξ _)⟩
 rintro D c' b W hD δ⟨rfl,hY,Q,hb⟩ hK;have HE:Hid (lU (tx s)=none):=by
  show _=_;obtain⟨t,rfl⟩:=δ;rw[ν,<-HZ,dH,r6];rw[show List.map (λx:Pc=>x.1) b=Ps b from rfl,Q];rfl
 have y0:=hY.one;refine bi4.2 ?_;go_wp2;try rw[cf]
 refine⟨lV,.inl ⟨_,_,rfl,bi2 hK,?_⟩⟩;exact⟨.tuple #[jM,.bool false],by simp[results,Tryz.results75,go_sem],pW.no HE (hb.trans (bj6 (w:=w) aa _ D _ _ jS hK rfl rfl))⟩
def wd(s:v?)(hs:s.size<=4294967296)(w:jC)(a:Tb w):jE Tryz.prog 75 #[jL s] w (pW w (tx s)):=by
 by_cases h:tx s=[]
 .have b:Hid (lU (tx s)=M []):=by show _=_;unfold lU;rw[B? h]
  obtain rfl:s=⟨#[]⟩:=rX h;go_in;go_wp2_with fail;go_step3;go_wp2_with fail;(try rw[cf]);go_ret2;exact pW.yes (L:=[]) b.out rfl (jQ _) (λh=>H? rfl h)
 exact jI.1 (TG s h hs w a)
end
def JD(s:v?)(hs:s.size<=4294967296)(w:jC)(d:Tb w):jE Tryz.prog 56 #[jL s] w λe w'=>e=a? (h? (lU (tx s)).isSome)/\Below w w w':=by
 have Q:=ah (wd s hs w d);go_in;go_wp2_with fail;refine Q.mono ?_;rintro e f⟨a,h⟩
 cases b:lU (tx s)with
 |none=>
  rw[b]at h;subst h;go_wp2;go_ret;exact⟨jU (by rw[b];rfl),a⟩
 |some l=>
  rw[b]at h;obtain⟨A,c,rfl,_⟩:=h;go_wp2;go_ret;exact⟨jU (by rw[b];rfl),a⟩
variable{L:E kI}
def OJ{set:E kI}(h:k<L.length):allM (L.take (k+1)) set=(allM (L.take k) set&&((k8 set (k7 L k).1).2&&qB (tx (k7 L k).2) (tx (k8 set (k7 L k).1).1))):=by
 rw[BQ h,yQ];unfold allM;simp
def Su{set:E kI}(h:allM (L.take k) set=u?):allM L set=u?:=by
 rw[<-fQ k L,yQ,h];rfl
def JH(h:lU s=M L):∀x∈L,x.1.size<=s.length/\x.2.size<=s.length:=by
 by_cases b:s=[]
 .unfold lU at h;rw[B? b]at h;cases h;intro x a;cases a
 have e:=LP b h;subst e;intro x a;obtain⟨y,c,rfl⟩:=dq.1 a;have d:=qn s y c;constructor
 .show(bt _).size<=_;rw[<-lG,vQ,cv];omega
 show(bt _).size<=_;rw[<-lG,vQ,dr];omega
def PY(h:lU s=M L):L.length<=s.length+1:=by
 by_cases a:s=[]
 .unfold lU at h;rw[B? a]at h;cases h;exact be _
 rw[LP a h,ax];exact rZ s
def Oc{set:E kI}(h:∀x∈set,x.1.size<=N/\x.2.size<=N)(n:v?):(k8 set n).1.size<=N:=by
 unfold k8;split
 .next x e=>exact(h x (List.mem_of_find?_eq_some e)).2
 exact be _
noncomputable def sg(s:E y?)(set:E kI):bi6:=a? (d? #[h? (As s set).1,jJ (As s set).2])
def Qq{set:E kI}(h:lU s=Z):sg s set=a? (d? #[h? u?,jJ 50]):=by unfold sg As;rw[h]
def NA{set:E kI}(h:lU s=M L)(a:setB set=u?):sg s set=a? (d? #[h? u?,jJ 50]):=by unfold sg As;rw[h];simp[a]
def Gt{set:E kI}(h:lU s=M L)(c:setB set=t?){b:z?}(a:allM L set=b):sg s set=a? (d? #[h? b,jJ 0]):=by unfold sg As;rw[h];simp[c,a]
def NC(s:v?)(hs:s.size<=100000)(A:w? jG)(set:E kI)(cap:O)(hl:set.length<=1000)(hz:∀x∈set,x.1.size<=100000/\x.2.size<=100000)(w:jC)(V:Tb w)(X:Lb w w A set):jE Tryz.prog 190 #[jL s,jN A set cap] w λe w'=>e=sg (tx s) set/\Below w w w':=by
 have Q:=ah (wd s jS w V);have HT:=ah V;have HS:=ah X;have HZ:=ah hz;have QR:Hid (∀a,Below w w a->jE Tryz.prog 134 #[jN A set cap] a λe w'=>e=a? (h? (setB set))/\Below a a w'):=λa o=>j_ A set cap (λx hx=>by have:=(hz x hx).2;omega) a (V.later o) (nY X o);have QG:Hid (∀a n,Below w w a->jE Tryz.prog 225 #[jN A set cap,jL n] a _):=λa n o=>get_any A set cap n jS a (nY X o);go_in;go_wp2_with fail;refine Q.mono ?_;rintro e a⟨ε,h⟩;have q:=ah ε
 cases H:lU (tx s)with
 |none=>
  rw[H]at h;subst h;have v:=ah (Qq (set:=set) H);go_wp2;go_ret2;exact⟨v.symm,q⟩
 |some L=>
  rw[H]at h;obtain⟨A1,c1,rfl,W⟩:=h;have K:=ah H;have SJ:=ah W;have Zi:=ah (QR a q);go_wp2_with fail;refine Zi.mono ?_;rintro e w2⟨rfl,y⟩;have c:=ah (Below.two q y);have η:=ah (nY SJ y)
  cases g:setB set with
  |false=>
   have v:=ah (NA K g);go_wp2;go_ret2;exact⟨v.symm,c⟩
  |true=>
   have v:Hid (∀b,allM L set=b->sg (tx s) set=a? (d? #[h? b,jJ 0])):=λb h=>Gt K g h;have γ:=ah (JH K);have ξ:L.length<=200000:=by have:=PY K;rw[lG]at this;omega
   go_wp2_with fail;go_loopw[26] (λi wr=>∃k:O,i=(aJ k)/\k<=L.length/\Hid (allM (L.take k) set=t?)/\(bB w2 wr)) (λi _=>L.length-(av i).toNat)
   case atStart=>exact⟨0,rfl,be _,rfl,Below.refl _ _⟩
   obtain⟨k,rfl,hk,HA,HB⟩:=hrel;by_cases T:k<L.length
   .have d1:decide ((k:I)<L.length)=t?:=ae;obtain⟨b,z,rfl,o,hc⟩:=η.at_ jS;obtain⟨δ,β⟩:=hc k T;have i1:=(HB.cell (p:=(cP b z k)) o).trans δ;have i2:=(HB.cell (p:=(cE b z k)) o).trans β;have ν:b<wr.heap.size:=qes;have μ:(0:I)<=k:=jS;have θ:(k:I)<L.length:=jS;have R:(k7 L k).2.size<=100000:=by
     have hm:k7 L k∈L:=by simp[k7,T]
     have:=(γ _ hm).2;rw[lG]at this;omega
    have f:=ah (OJ (set:=set) T);rw[HA,eF]at f;have Wr:Hid (allM (L.take (k+1)) set=u?->sg (tx s) set=a? (d? #[h? u?,jJ 0])):=λh=>v u? (Su h);generalize k7 L k=x at*
    obtain⟨l,t⟩:=x;simp only at i1 i2 R f;have D:=jP (jQ wr) (m? #[jL l,jL t] 214);have NB:=ah (jR.new wr 214 #[jL l,jL t]);have O_:=ah (c.trans ((Below.two HB D).mono c.size));have F:=ah (QG _ l O_);have N:=Oc HZ l;have Ct:=ah (Below.two HB D);have ρ:wr.heap.size<(wr.alloc (m? #[jL l,jL t] 214)).heap.size:=lV;generalize k8 set l=gv at*
    obtain⟨G,ok⟩:=gv;simp only at F N f;go_wp2_with fail;generalize wr.alloc (m? #[jL l,jL t] 214)=w3 at*
    refine F.mono ?_;rintro e w4⟨rfl,j⟩;have Y:=ah (Below.two Ct j);have d:=O_.trans (j.mono O_.size);have m:=ah (NB.later j);have n0:=m.p0;have n1:=m.p1;have nz:=m.lt
    cases ok with
    |false=>
     have B:=ah (Wr (by rw[f];rfl));go_wp2;go_ret2;exact⟨B.symm,d⟩
    |true=>
     rw[eF]at f;have J:=ah (fits_any t G w4 jS jS (HT.later d))
     cases hf:qB (tx t) (tx G)with
     |false=>
      have B:=ah (Wr (by rw[f,hf]));rw[hf]at J;go_wp2_with fail;refine J.mono ?_;rintro e w5⟨rfl,r⟩;go_wp2;go_ret2;exact⟨B.symm,d.trans (r.mono d.size)⟩
     |true=>
      rw[hf]at J f;go_wp2_with fail;refine J.mono ?_;rintro e w5⟨rfl,r⟩;have y_:=ah (Below.two Y r);go_wp2;go_roundw
      case rel=>exact⟨k+1,CJ,jS,f,y_⟩
      exact No
   have α:k=L.length:=jS;subst α;have d1:decide ((L.length:I)<L.length)=u?:=lV;have B:=ah (v t? (by have:=HA;rwa[dP]at this));go_wp2;go_ret2;exact⟨B.symm,c.trans (HB.mono c.size)⟩
end Sc
end Go.Proofs.YtfcnedcahoifoaaGreatDoor
