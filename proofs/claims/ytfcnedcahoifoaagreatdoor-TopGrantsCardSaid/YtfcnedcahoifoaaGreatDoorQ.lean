import Derived.Test.YtfcnedcahoifoaaGreatDoorH
namespace Go.Proofs.YtfcnedcahoifoaaGreatDoor
open Go.RowKit
open _root_.Array renaming getElem?_eq_some_iff→aw
open _root_.Go renaming Addr→jG,CallsIn→bj2,Calls→jE,Code→bk9,Ending→bi6,Exit→bk7,KeepsOthers→bj4,Oper→bk0,Program→bi3,TypeId→jH,Value→jD,World→jC,bodyPost_ret→jF,callsIn_of_wp_marks→bi7,callsIn_wide→jI,grownBy_putObj'→bj5,method→gz,rounds_succ→bi9,run_takeDeferred→bi2,wpIn_wide→bi4,wp_loop_rounds→bj8,wp_region_held_drew→bi1
open _root_.Go.CallsIn renaming inRound→d_
open _root_.Go.Code renaming wp_mono→jg
open _root_.Go.Exit renaming noGoto_ret→cf
open _root_.Go.Fence renaming wide→cz
open _root_.Go.IntWalk renaming i64_in→dv
open _root_.Go.KeepsOthers renaming refl→gq,setCell→b7
open _root_.Go.Oper renaming semAt_some→db
open _root_.Go.Region renaming Mode→fD
open _root_.Go.World renaming block_lt_of_cell?→b8,cell?_of_block→co
open _root_.List renaming length_replicate→ey,replicate→de,set_cons_succ→am,set_cons_zero→ak
open _root_.Nat renaming eq_zero_or_pos→fM,lt_of_lt_of_le→cn,reduceAdd→ao,reduceSub→dk,zero_add→au,zero_le→be
open _root_.Bool renaming false→u?,true→t?
open _root_.Go.Ending renaming returned→a?
open _root_.Go.IntKind renaming i64→o?,u64→n?
open _root_.Go.Obj renaming cells→m?
open _root_.Go.Value renaming agg→g?,iface→i?,int→c?,nilIface→j?,slice→b?,tuple→d?
open _root_.Option renaming none→Z,some→M
open _root_.Or renaming inl→r?,inr→s?
open _root_ renaming Array→x?,Bool→z?,Int→I,List→E,Nat→O,Option→w?,absurd→H?,and_true→I?,beq_false_of_ne→J?,decide_eq_false→E?,decide_eq_true→F?,if_neg→A?,if_pos→B?
set_option maxRecDepth 100000
set_option maxHeartbeats 16000000
set_option linter.unusedVariables false
set_option linter.unusedSimpArgs false
set_option linter.defProp false
structure lY(p:O->Prop)(m:SkM):Prop where
 e:m.s.e≠[]->∀ad,m.ea=M ad->p ad.block
 c:m.s.c≠[]->∀ad,m.ca=M ad->p ad.block
 g:m.s.g≠[]->∀ad,m.ga=M ad->p ad.block
section
variable{p q:O->Prop}{m:SkM}{w w':jC}{B g i:O}{v:jD}
def lY.mono(h:lY p m)(d:∀b,p b->q b):lY q m:=⟨λx a e=>d _ (h.e x a e),λx a e=>d _ (h.c x a e),λx a e=>d _ (h.g x a e)⟩
variable{A:w? jG}{xs:E jD}
def uS(h:Rd w B A xs)(c:xs≠[]):∀a,A=M a->a.block<B:=λa e=>by
 obtain⟨b,d,f,g,_⟩:=h c;rw[f]at e;cases e;exact g
def jY.inn(h:jY w B m):lY (·<B) m:=⟨λx=>uS h.e (by simpa using x),λx=>uS h.c (by simpa using x),λx=>uS h.g (by cases a:m.s.g with|nil=>exact H? a x|cons y r=>simp[Hi.mD])⟩
def Fr.inn(h:Fr B m):lY (B<= ·) m:=⟨λ_=>h.e,λ_=>h.c,λ_=>h.g⟩
def D8(h:Rd w w A xs)(a:xs≠[]->∀c,A=M c->c.block≠g):Rd (w.setCell ⟨g,i,Z⟩ v) (w.setCell ⟨g,i,Z⟩ v).heap.size A xs:=λb=>mi h (a b) b
def jY.put(h:jY w w m)(a:lY (·≠g) m):jY (w.setCell ⟨g,i,Z⟩ v) (w.setCell ⟨g,i,Z⟩ v).heap.size m:=
 ⟨D8 h.e λx=>a.e λe=>x (by rw[e];rfl),D8 h.c λx=>a.c λe=>x (by rw[e];rfl),D8 h.g λx=>a.g λe=>x (by rw[e];rfl)⟩
def jY.lp(b:lY (·≠g) m):∀(a:E jD){w:jC}(i:O),jY w w m->jY (lp w g i a) (lp w g i a).heap.size m
 |[],_,_,h=>h
 |v::a,_,i,h=>jY.lp b a (i+1) (h.put b)
end
def pJ(lo:O)(w:jC)(s:Sk)(e:bi6)(w':jC):Prop:=∃m:SkM,m.s=s/\e=a? (d? #[jT m,j?])/\jY w' w' m/\lY (λb=>b<lo\/w.heap.size<=b) m/\Below w w w'
def ut(lo:O)(T:jH)(v:jD)(s:O)(c a:I)(k:Sk)(Q:0<=a)(N:a<kn c)(K:(T=294/\s=286)\/(T=297/\s=315)\/(T=298/\s=325)\/(T=300/\s=344))(D:k.kind=c)(J:k.level=a+1)(w:jC)(d:∀w',Below w w w'->jE Tryz.prog s #[v] w' (oW w' k)):jE Tryz.prog 182 #[g? #[i? T v,jJ c,jJ a]] w (pJ lo w k):=by
 have W:=ah d;have R:kn c<=4:=by unfold kn;split;omega;split<;>omega
 have hw:IntKind.i64.wrap (a+1)=a+1:=dv _ jS;have Y:decide (kn c<=a)=u?:=ag;have G:Hid (k.kind=c/\k.level=a+1):=⟨D,J⟩;clear d D J R;go_in;go_wp2_with fail;refine oN (λ_=>True) (((Hold.nil w).alloc w 169 [i? T v,jJ c,jJ a]).alloc (w.heap.size+1) 169 cT) trivial (λV e _=>?_);have x:=fk (e.at_ 1);replace e:=ah e.drew;go_region_held(λw'=>w'.cell? ⟨w,1,Z⟩=M (c? o? c)/\w'.cell? ⟨w,2,Z⟩=M (c? o? a)) (first|assumption|exact x.2|go_keep) ((go_at_call 112;refine(qI _ _).mono ?_;rintro r _⟨rfl,rfl⟩));generalize V.drew=t at*;clear x;have x:=fk (e.facts);rcases K with⟨rfl,rfl⟩|⟨rfl,rfl⟩|⟨rfl,rfl⟩|⟨rfl,rfl⟩
 all_goals
  go_wp2_with fail;refine(W t e.below).mono ?_;rintro r w3⟨m,C,rfl,j,A,l⟩;have hz:w.heap.size+1<t.heap.size:=x.1;replace e:=ah (e.call l);obtain⟨y,z,n⟩:=kv m;rw[n];clear l x;have x:=fk (e.facts);go_wp2_with fail;have F:=aS (e.all 0 [i? y z,jJ c,jJ (a+1)]);have h:=A.inn;have f:=aS (jY.lp (g:=w.heap.size+1) (h.mono λb(L:t.heap.size<=b)=>jS) [i? y z,jJ c,jJ (a+1)] 0 j);refine kw (λV=>jY V V m) F f (λV H j=>?_);have o:=h.mono (q:=λb=>b<lo\/w.heap.size<=b) λb(L:t.heap.size<=b)=>s? jS;clear x e F f h;have X:=fk (H.at_ 0);refine jF (v:=d? #[g? #[i? y z,jJ c,jJ (a+1)],j?]) (by simp[results,Tryz.results182,go_sem,X]) rfl ?_;exact⟨m,C,by rw[jT,n,C,G.1,G.2],j,o,H.below⟩
def Em(m:SkM)(t:GK m.s)(j:m.s.level<kn m.s.kind)(lo:O)(w:jC)(z:jY w w m):jE Tryz.prog 182 #[jT m] w (pJ lo w (mG m.s)):=by
 obtain⟨_,r,n⟩:=uW t j;have d:=(sI t).1;have k:∀w',Below w w w'->jY w' w' m:=λw' h=>z.later h;clear z;obtain⟨s,B,N,D,L,A,F⟩:=m;simp only at t j d r n⊢
 cases t with
 |num e f q=>
  refine ut lo 294 _ 286 1 0 _ d j (r? ⟨rfl,rfl⟩) r n w λw' o=>?_;have v:mG (bM e)={kN 1 1 with bits:=(Hl.JQ 7 e).b,regs:=Hl.bs (Hl.JQ 7 e).l}:=by simp[mG,kN]
  rw[v];exact Eg B e N 1 B8 (Hl.JQ 7 e) q (by have:=(Ex.mS.1 f).1;omega) (by rw[T7]) w' (k w' o).e
 |reg b l V W f=>
  have G:¬((8:I)-b=0):=jS;have R:4<=b:=V;obtain⟨v,X⟩:=CZ R f;have x:=sR l (Hl.kU f);have T:jT ⟨lI 14 b l,B,N,D,L,A,F⟩=g? #[i? 297 (g? #[jJ b,jL (Hl.bs l)]),jJ 1,jJ (8-b)]:=by simp[jT,kK,hV,G]
  rw[T];refine ut lo 297 _ 315 1 (8-b) _ d j (s? (r? ⟨rfl,rfl⟩)) r n w λw' o=>?_;have p:mG (lI 14 b l)={kN 1 (8-b+1)with bits:=(Hl.lR b (lQ (Hl.bs l))).b,regs:=Hl.bs (Hl.lR b (lQ (Hl.bs l))).l}:=by simp[mG,kN,G]
  rw[p];exact D7 b (Hl.bs l) (8-b+1) jS (Hl.lR b (lQ (Hl.bs l))) (by rw[x,v]) w'
 |cnt a C c n J f q=>
  refine ut lo 298 _ 325 2 a _ d j (s? (s? (r? ⟨rfl,rfl⟩))) r n w λw' o=>?_;have p:mG (oZ 22 a C c)={kN 2 (a+1)with rows:=(Cm.mm ⟨2,C,c⟩).1.r,cols:=(Cm.mm ⟨2,C,c⟩).1.c,c:=(Cm.mm ⟨2,C,c⟩).1.l}:=by simp[mG,kN]
  rw[p];have y:(C:I)≠4:=by
   have:a<3:=by simp[kn]at j;omega
   rcases(by omega:a=0\/a=1\/a=2)with rfl|rfl|rfl<;>simp at J<;>subst J<;>decide
  exact EV 2 C D c L (a+1) (Cm.mm ⟨2,C,c⟩).1 q (by rw[Cm.mm,B? ⟨f,y⟩]) w' (k w' o).c
 |zB a g n f q=>
  refine ut lo 300 _ 344 3 a _ d j (s? (s? (s? ⟨rfl,rfl⟩))) r n w λw' o=>?_;have p:mG ⟨3,a,[],0,⟨#[]⟩,0,0,[],3-a,g⟩={kN 3 (a+1)with fine:=(Hi.lR (3-a) g).1,g:=(Hi.lR (3-a) g).2.1}:=by simp[mG,kN]
  rw[p];have Q:Hi.ld (3-(a:I)-1)=t?:=by simp[kn]at j;simp[Hi.ld];omega
  exact EX (3-a) A g F (a+1) ((Hi.lR (3-a) g).1,(Hi.lR (3-a) g).2.1) q (Hi.zV (Hi.pS f)) (by rw[Hi.lR,B? ⟨f,Q⟩]) w' (k w' o).g
instance i5_(x0:E I):CoeOut (sH 5 x0) Sk:=⟨λ_=>⟨1,1,[],((7:O):I),Hl.bs (Hl.mx 7 (de (2^7) 0) x0),0,0,[],0,[]⟩⟩
def DK(lo:O)(T:jH)(v:jD)(t:O)(d j h n:I)(s:Sk)(L:(T=294/\t=283)\/(T=297/\t=312)\/(T=298/\t=322)\/(T=300/\t=341))(R:s.kind=d)(h2:s.level=j)(b:O)(w:jC)(G:(bI w b h)/\w.cell? ⟨b,1,Z⟩=M (c? n? n))(a:∀w',Below w w w'->jE Tryz.prog t #[v,cI h n] w' (oW w' s)):jE Tryz.prog 137 #[g? #[i? T v,jJ d,jJ j],b? (aC b) 1 1] w (pJ lo w s):=by
 have HC:=ah a;have X:Hid (s.kind=d/\s.level=j):=⟨R,h2⟩;have K:b<w.heap.size:=b8 w _ G.1;have α:∀(x:jD)(w:jC),(gz 640 T x "aviary/ladder.add").run Tryz.prog w=.ok (t,x) w:=by rcases L with⟨rfl,rfl⟩|⟨rfl,rfl⟩|⟨rfl,rfl⟩|⟨rfl,rfl⟩<;>exact λ_ _=>oo
 clear a R h2;go_in;go_wp2_with fail;refine oN (λV=>(bI V b h)/\V.cell? ⟨b,1,Z⟩=M (c? n? n)) (((Hold.nil w).alloc w 169 [i? T v,jJ d,jJ j]).alloc (w.heap.size+1) 169 cT) (by
  have q:∀o u,w.cell? ⟨b,o,Z⟩=M u->_:=λo u e=>((jP (jP (jQ w) (m? #[i? T v,jJ d,jJ j] 169)) (m? #[j?,jJ 0,jJ 0] 169)).cell (p:=⟨b,o,Z⟩) K).trans e;exact⟨q 0 _ G.1,q 1 _ G.2⟩) (λV H hV=>?_)
 clear G;have x:=fk (H.facts);have β:b<V.heap.size:=by have:=H.size;omega
 rcases L with⟨rfl,rfl⟩|⟨rfl,rfl⟩|⟨rfl,rfl⟩|⟨rfl,rfl⟩
 all_goals
  refine bj8 2 ?_;rw[bi9];go_wp2_with fail;have k:=ah (H.al (m? #[jK h,jK n] 39));refine(HC _ k.below).mono ?_;rintro e w1⟨m,N,rfl,r,J,y⟩;have hz:w.heap.size+1<V.heap.size:=x.1;have F:Fr (V.heap.size+1) m:=by simpa using J
  replace k:=ah (k.call y);obtain⟨z,A,C⟩:=kv m;rw[C];clear y x hV H;have x:=fk (k.facts);go_wp2_with fail;refine(AI _).mono ?_;rintro e w2⟨rfl,l⟩;replace k:=ah (k.call l);replace r:=r.later l;clear l x;have x:=fk (k.facts);go_wp2_with fail;rw[bi9];go_wp2_with fail;have W:=aS ((k.put 1 0 (i? z A)).all 0 [i? z A,jJ d,jJ j]);have c:=F.inn;have f:=aS (jY.lp (g:=w.heap.size+1) (c.mono λb Q=>jS) [i? z A,jJ d,jJ j] 0 (r.put (g:=w.heap.size) (i:=0) (v:=i? z A) (c.mono λb Q=>jS)));refine kw (λV=>jY V V m) W f (λV9 Y nZ=>?_);have D:=c.mono (q:=λb=>b<lo\/w.heap.size<=b) λb Q=>s? jS;have hq:=fk (Y.at_ 0);clear x W f c;refine jF (v:=d? #[g? #[i? z A,jJ d,jJ j],j?]) (by simp[results,Tryz.results137,go_sem,hq]) rfl ?_;exact⟨m,N,by rw[jT,C,N,X.1,X.2],nZ,D,Y.below⟩
def MW(lo:O)(v:jD)(h n:I)(X l:Sk)(h1:l.kind=1)(h2:l.level=1)(b:O)(w:jC)(hE:Er w)(T:(bI w b h)/\w.cell? ⟨b,1,Z⟩=M (c? n? n))(f:∀w',Below w w w'->jE Tryz.prog 283 #[v,cI h n] w' (I0 w'))(d:∀w',Below w w w'->jE Tryz.prog 182 #[g? #[i? 294 v,jJ 1,jJ 0]] w' (pJ 0 w' X))(G:∀m:SkM,m.s=X->jT m=g? #[i? 297 (hV m),jJ 1,jJ 1])(k:∀(m:SkM) w',m.s=X->jE Tryz.prog 312 #[hV m,cI h n] w' (oW w' l)):jE Tryz.prog 137 #[g? #[i? 294 v,jJ 1,jJ 0],b? (aC b) 1 1] w (pJ lo w l):=by
 have HC:=ah f;have HL:=ah d;have HA:=ah k;have HS:=ah G;have IV:=ah hE;have HE:Hid (l.kind=1/\l.level=1):=⟨h1,h2⟩;have Y:b<w.heap.size:=b8 w _ T.1;have β:∀(x:jD)(w:jC),(gz 640 294 x "aviary/ladder.add").run Tryz.prog w=.ok (283,x) w:=λ_ _=>oo;have δ:∀(x:jD)(w:jC),(gz 640 297 x "aviary/ladder.add").run Tryz.prog w=.ok (312,x) w:=λ_ _=>oo;clear f d k G hE h1 h2;go_in;go_wp2_with fail;refine oN (λV=>(bI V b h)/\V.cell? ⟨b,1,Z⟩=M (c? n? n)) (((Hold.nil w).alloc w 169 [i? 294 v,jJ 1,jJ 0]).alloc (w.heap.size+1) 169 cT) (by
  have q:∀o u,w.cell? ⟨b,o,Z⟩=M u->_:=λo u e=>((jP (jP (jQ w) (m? #[i? 294 v,jJ 1,jJ 0] 169)) (m? #[j?,jJ 0,jJ 0] 169)).cell (p:=⟨b,o,Z⟩) Y).trans e;exact⟨q 0 _ T.1,q 1 _ T.2⟩) (λV W hV=>?_)
 clear T;have x:=fk (W.facts);have γ:b<V.heap.size:=by have:=W.size;omega
 have hz:w.heap.size+1<V.heap.size:=x.1;refine bj8 2 ?_;rw[bi9];go_wp2_with fail;refine kf (λ_=>True) (W.alloc V 39 [jK h,jK n] rfl) trivial (λV1 a _=>?_);clear x hV W;generalize V.heap.size=bi at*;refine(HC _ a.below).mono ?_;rintro e w1⟨bf,rfl,K,J⟩;replace a:=ah (a.call J);have uL:=ah (IV.later a.below);clear J HC;have x:=fk (a.facts);go_wp2_with fail;refine(Db bf _ uL K).mono ?_;rintro e w2⟨rfl,r⟩;replace a:=ah (a.call r);clear r x K;have x:=fk (a.facts);go_wp2_with fail;refine(HL _ a.below).mono ?_;rintro e w3⟨m2,C,rfl,-,-,z⟩;rw[HS m2 C];replace a:=ah (a.call z);clear z x;have x:=fk (a.facts);have Q:=ah (λw'=>HA m2 w' C);clear HA HS;generalize hV m2=v2 at*;go_wp2_with fail;have F:=aS (a.all 2 [i? 297 v2,jJ 1,jJ 1]);refine kf (λ_=>True) F trivial (λV4 D _=>?_);clear x F a;refine(Q _).mono ?_;rintro e w5⟨m,hm,rfl,α,A,R⟩;have H:Fr bi m:=A.mono (by have:=(D.blk _ ab).2.lt;simp only at this;omega);replace D:=ah (D.call R).tail;obtain⟨t,y,L⟩:=kv m;rw[L];clear R Q A;have x:=fk (D.facts);go_wp2_with fail;rw[bi9];go_wp2_with fail;have F:=aS ((D.put 1 0 (i? t y)).all 0 [i? t y,jJ 1,jJ 1]);have c:=H.inn;have j:=aS (jY.lp (g:=w.heap.size+1) (c.mono λb hb=>jS) [i? t y,jJ 1,jJ 1] 0 (α.put (g:=w.heap.size) (i:=0) (v:=i? t y) (c.mono λb hb=>jS)));refine kw (λV=>jY V V m) F j (λV9 H9 nZ=>?_);have N:=c.mono (q:=λb=>b<lo\/w.heap.size<=b) λb hb=>s? jS;have hq:=fk (H9.at_ 0);clear x F j c;refine jF (v:=d? #[g? #[i? t y,jJ 1,jJ 1],j?]) (by simp[results,Tryz.results137,go_sem,hq]) rfl ?_;exact⟨m,hm,by rw[jT,L,hm,HE.1,HE.2],nZ,N,H9.below⟩
def zG(lo:O)(m:SkM)(hG:GK m.s)(h n:I)(A:U h)(G:U n)(b:O)(w:jC)(hE:Er w)(x:jY w w m)(J:(bI w b h)/\w.cell? ⟨b,1,Z⟩=M (c? n? n)):jE Tryz.prog 137 #[jT m,b? (aC b) 1 1] w (pJ lo w (wQ m.s h n)):=by
 have p:∀w',Below w w w'->jY w' w' m:=λw' h=>x.later h;clear x;obtain⟨s,N,R,V,cc,T,W⟩:=m;simp only at hG⊢;have Q:∀{s:Sk},GK s->qY s h=u?->wQ s h n=nQ s h n/\(nQ s h n).kind=s.kind/\(nQ s h n).level=s.level:=λg f=>⟨by rw[wQ,f];rfl,(E6 g A G f).2⟩
 cases hG with
 |num e d o=>
  have hl:=(Ex.mS.1 d).1
  cases H:qY (bM e) h with
  |false=>
   obtain⟨z,v,t⟩:=Q (GK.num e d o) H;rw[z];have F:(Ex.kp e [h]).length<=64:=by simp[qY]at H;exact H
   exact DK lo 294 _ 283 1 0 h n _ (r? ⟨rfl,rfl⟩) v t b w J λw' q=>JV N e R h n d F w' (p w' q).e
  |true=>
   have F:64<(Ex.kp e [h]).length:=by simp[qY]at H;exact H
   obtain⟨g1,g2,g3⟩:=uW (GK.num e d o) (show(0:I)<kn 1 by decide);have ek:wQ (bM e) h n=nQ (mG (bM e)) h n:=by rw[wQ,H];rfl
   rw[ek];obtain⟨_,v,t⟩:=E6 g1 (n:=n) A G (by simp[qY,g3]);have es:mG (bM e)=(lz 5 e):=by simp[mG,T7]
   refine MW lo _ h n (mG (bM e)) _ (v.trans g2) (t.trans (by rw[g3];rfl)) b w hE J (λw' q=>JU N e R h n d F w' (p w' q).e) (λw' q=>Em ⟨_,N,R,V,cc,T,W⟩ (GK.num e d o) (show(0:I)<kn 1 by decide) 0 w' (p w' q)) (λm x=>?_) λm w' x=>?_
   .rw[es]at x;simp[jT,kK,x]
   rw[es]at x⊢;have K:=pZ (B:=7) jS jS e;have k:=sR _ (Hl.kU K);have y:=E5 h.toNat K;have ev:hV m=g? #[jJ ((7:O):I),jL (Hl.bs (bC e))]:=by simp[hV,x]
   rw[ev];have D:nQ (lz 5 e) h n={kN 1 1 with bits:=(Hl.pc ((7:O):I) (bC e) h.toNat).b,regs:=Hl.bs (Hl.pc ((7:O):I) (bC e) h.toNat).l}:=by
    simp only[nQ,kN,k,if_true,A? (show¬(1:I)=0 by omega)]
   rw[D];exact Ab _ _ 1 jS (Hl.pc ((7:O):I) (bC e) h.toNat) h n A (by rw[k,y.1]) w'
 |reg j l h4 h7 d=>
  have Y:¬((8:I)-j=0):=jS;obtain⟨z,v,t⟩:=Q (GK.reg j l h4 h7 d) (by simp[qY,Y]);rw[z];have k:=sR l (Hl.kU d);have ew:jT ⟨lI 14 j l,N,R,V,cc,T,W⟩=g? #[i? 297 (g? #[jJ j,jL (Hl.bs l)]),jJ 1,jJ (8-j)]:=by simp[jT,kK,hV,Y]
  rw[ew];refine DK lo 297 _ 312 1 (8-j) h n _ (s? (r? ⟨rfl,rfl⟩)) v t b w J λw' q=>?_;have D:nQ (lI 14 j l) h n={kN 1 (8-j)with bits:=(Hl.pc j l h.toNat).b,regs:=Hl.bs (Hl.pc j l h.toNat).l}:=by simp only[nQ,kN,k,if_true,A? Y]
  rw[D];exact Ab j (Hl.bs l) (8-j) jS (Hl.pc j l h.toNat) h n A (by rw[k,(E5 _ d).1]) w'
 |cnt a C c X hC d o=>
  obtain⟨z,v,t⟩:=Q (GK.cnt a C c X hC d o) (by simp[qY]);rw[z];refine DK lo 298 _ 322 2 a h n _ (s? (s? (r? ⟨rfl,rfl⟩))) v t b w J λw' q=>?_;obtain⟨L,y,_⟩:=MK (h:=h) d o G;have D:nQ (oZ 22 a C c) h n={kN 2 a with rows:=(⟨2,C,L⟩:Cm.Cm).r,cols:=(⟨2,C,L⟩:Cm.Cm).c,c:=(⟨2,C,L⟩:Cm.Cm).l}:=by simp[nQ,kN,y]
  rw[D];exact K8 2 C V c cc a ⟨2,C,L⟩ h n A G o y w' (p w' q).c
 |zB a g X d o=>
  obtain⟨z,v,t⟩:=Q (GK.zB a g X d o) (by simp[qY]);rw[z];refine DK lo 300 _ 341 3 a h n _ (s? (s? (s? ⟨rfl,rfl⟩))) v t b w J λw' q=>?_;obtain⟨y,_⟩:=IJ (h:=h) (n:=n) d o A G;have D:nQ ⟨3,a,[],0,⟨#[]⟩,0,0,[],3-a,g⟩ h n={kN 3 a with fine:=((3-(a:I),Hi.qa g (Hi.lj (3-a) h) n):I×Hi.jX).1,g:=((3-(a:I),Hi.qa g (Hi.lj (3-a) h) n):I×Hi.jX).2}:=by simp[nQ,kN,y]
  rw[D];exact Lc (3-a) T g W a (3-(a:I),Hi.qa g (Hi.lj (3-a) h) n) h n A G o (Hi.zV (Hi.pS d)) y w' (p w' q).g
structure SaA(x0:SkM) where
def aA(a:SkM):SaA a:=⟨⟩
instance aY7(x0:SkM):CoeOut (SaA x0) (E jD):=⟨λ_=>[jJ x0.s.kind,jJ x0.s.level,jN x0.ea x0.s.e x0.ec,jJ x0.s.bits,jL x0.s.regs,jJ x0.s.rows,jJ x0.s.cols,jN x0.ca x0.s.c x0.cc,jJ x0.s.fine,jN x0.ga x0.s.g x0.gc]⟩
structure SaB(x0:SkM) where
def aB(a:SkM):SaB a:=⟨⟩
instance aY6(x0:SkM):CoeOut (SaB x0) (x? jD):=⟨λ_=>#[jJ x0.s.kind,jJ x0.s.level,jN x0.ea x0.s.e x0.ec,jJ x0.s.bits,jL x0.s.regs,jJ x0.s.rows,jJ x0.s.cols,jN x0.ca x0.s.c x0.cc,jJ x0.s.fine,jN x0.ga x0.s.g x0.gc]⟩
instance i9_(x0:jC)(x1:SkM):CoeOut (wU 9 x0 x1) Prop:=⟨λ_=>Hid (∀w',Below x0 x0 w'->jE Tryz.prog 79 #[nT x1] w' λe w''=>e=a? (d? #[jT x1,j?])/\Below w' w' w'')⟩
instance aY8(x0:jC)(x1:SkM):CoeSort (wU 9 x0 x1) Prop:=⟨λ_=>Hid (∀w',Below x0 x0 w'->jE Tryz.prog 79 #[nT x1] w' λe w''=>e=a? (d? #[jT x1,j?])/\Below w' w' w'')⟩
def wW(w:jC)(s:Sk)(e:bi6)(w':jC):Prop:=∃m:SkM,m.s=s/\e=a? (d? #[nT m,jJ 0])/\jY w' w' m/\Fr w m/\Below w w w'
def Jr(m:SkM)(h:GK m.s)(w:jC)(d:jY w w m):jE Tryz.prog 114 #[jT m] w (wT w m.s):=by
 obtain⟨s,n,t,q,p,k,r⟩:=m;simp only at h⊢;have f:=h.fit
 cases h with
 |num e j o=>exact yq n e t 1 0 f.e w d.e
 |reg b l B z j=>
  have x:¬((8:I)-b=0):=jS;have y:jT ⟨lI 14 b l,n,t,q,p,k,r⟩=g? #[i? 297 (g? #[jJ b,jL (Hl.bs l)]),jJ 1,jJ (8-b)]:=by simp[jT,kK,hV,x]
  rw[y];exact yo b (Hl.bs l) 1 (8-b) w
 |cnt a C c v A j o=>exact yu 2 C q c p 2 a f.c w d.c
 |zB a g v j o=>exact yp (3-a) k g r 3 a f.g w d.g
def xg(m:SkM)(n:GK m.s)(w:jC)(p:jY w w m):jE Tryz.prog 109 #[jT m,j?] w (wW w m.s):=by
 have k:Hid (∀w',Below w w w'->jE Tryz.prog 114 #[jT m] w' (wT w' m.s)):=λw' h=>Jr m n w' (p.later h);obtain⟨T,v,l⟩:=kv m;unfold jT at k⊢;rw[l]at k⊢;generalize m.s=s at*;have A:=ah n;clear p l n;go_in;go_wp2_with fail;refine kf (λ_=>True) (((Hold.nil w).alloc w 169 [i? T v,jJ s.kind,jJ s.level]).alloc (w.heap.size+1) 136 (xl 0 0)) trivial (λV d _=>?_);refine(k V d.below).mono ?_;rintro e D⟨m,rfl,rfl,o,c,f⟩;have C:w.heap.size+1<V.heap.size:=(d.blk _ ab).2.lt;replace d:=ah (d.call f);have x:=fk (d.facts);unfold nT;clear f k;go_wp2_with fail;have q:=aS (d.all 0 (aA m));have g:lY (·≠w.heap.size+1) m:=c.inn.mono λb(l:V.heap.size<=b)=>jS;have a:=aS (jY.lp g (aA m) 0 o);refine kw (λV=>jY V V m) q a (λz r t=>?_);have j:=c.mono (B':=w.heap.size) jS;have y:=fk (r.at_ 0);clear x q a g c d;refine jF (v:=d? #[g? (aB m),jJ 0]) (by simp[results,Tryz.results109,go_sem,y]) rfl ?_;exact⟨m,rfl,rfl,t,j,r.below⟩
def Ki(m:SkM)(H:GK m.s)(hl:m.s.level<kn m.s.kind)(w:jC)(F:jY w w m):jE Tryz.prog 143 #[nT m] w (wW w (mG m.s)):=by
 have HK:Hid (∀w',Below w w w'->jY w' w' m):=λw' h=>F.later h;have QO:(lI 9 w m):=λw' h=>vu m H.right w' (F.later h) H.fit;have J:Hid (∀w',Below w w w'->jE Tryz.prog 182 #[jT m] w' (pJ w w' (mG m.s))):=λw' h=>Em m H hl w w' (F.later h);obtain⟨T,v,G⟩:=kv m;unfold jT at J;rw[G]at J;clear F;go_in;unfold nT at*;go_wp2_with fail;refine kf (λ_=>True) (((Hold.nil w).alloc w 136 (aA m)).alloc (w.heap.size+1) 136 (xl 0 0)) trivial (λV q _=>?_);refine(QO V q.below).mono ?_;rintro e R⟨rfl,t⟩;replace q:=ah (q.call t);clear t QO;have x:=fk (q.facts);have p:jT m=g? #[i? T v,jJ m.s.kind,jJ m.s.level]:=by rw[jT,G]
 rw[p];have hz:w.heap.size+1<R.heap.size:=x.1;go_wp2_with fail;refine kf (λ_=>True) (q.alloc R 169 [i? T v,jJ m.s.kind,jJ m.s.level] rfl) trivial (λV2 o _=>?_);clear x q p;generalize R.heap.size=Y at*;refine(J V2 o.below).mono ?_;rintro e w3⟨c,k,rfl,f,d,z⟩;have α:Y<V2.heap.size:=(o.blk _ (ac 0)).2.lt;replace o:=ah (o.call z);have K:Hid (GK c.s):=by rw[k];exact(uW H hl).1
 obtain⟨W,Q,N⟩:=kv c;have p:jT c=g? #[i? W Q,jJ c.s.kind,jJ c.s.level]:=by rw[jT,N]
 rw[p];have Yx:=ah k;clear z J k;have x:=fk (o.facts);go_wp2_with fail;have A:=aS (o.all 0 [i? W Q,jJ c.s.kind,jJ c.s.level]);have xM:=aS (jY.lp (g:=Y) (d.mono λb G=>jS) [i? W Q,jJ c.s.kind,jJ c.s.level] 0 f);refine kf (λV=>jY V V c) A xM (λL r rm=>?_);have X:=ah (xg c K L rm);rw[p]at X;clear x A xM o f d p;refine X.mono ?_;rintro e w5⟨n,N1,rfl,uH,j,C⟩;have Rg:w.heap.size+1<L.heap.size:=by have:=(r.blk _ (ac 0)).2.lt;simp only at this;omega
 replace r:=ah (r.call C);have Fk:Hid (n.s=mG m.s):=N1.trans Yx;clear C X N1;have x:=fk (r.facts);unfold nT;go_wp2_with fail;have A:=aS (r.all 1 (aA n));have y:lY (·≠w.heap.size+1) n:=j.inn.mono λb(G:L.heap.size<=b)=>jS;have G6:=aS (jY.lp y (aA n) 0 uH);refine kw (λV=>jY V V n) A G6 (λV9 H9 nZ=>?_);have D:=j.mono (B':=w.heap.size) jS;have hq:=fk (H9.at_ 1);clear x A G6 y j r;refine jF (v:=d? #[g? (aB n),jJ 0]) (by simp[results,Tryz.results143,go_sem,hq]) rfl ?_;exact⟨n,Fk,rfl,nZ,D,H9.below⟩
def GP(m:SkM)(J:GK m.s)(h n:I)(hh:U h)(hn:U n)(w:jC)(W:Er w)(H:jY w w m):jE Tryz.prog 95 #[nT m,cI h n] w (wW w (wQ m.s h n)):=by
 have HK:Hid (∀w',Below w w w'->jY w' w' m):=λw' h=>H.later h;have QO:(lI 9 w m):=λw' h=>vu m J.right w' (H.later h) J.fit;have IV:=ah W;have K:Hid (∀w' b,Below w w w'->Er w'->((bI w' b h)/\w'.cell? ⟨b,1,Z⟩=M (c? n? n))->jE Tryz.prog 137 #[jT m,b? (aC b) 1 1] w' (pJ w w' (wQ m.s h n))):=λw' b q W hc=>zG w m J h n hh hn b w' W (H.later q) hc;obtain⟨T,v,q⟩:=kv m;unfold jT at K;rw[q]at K;clear H;go_in;unfold nT at*;go_wp2_with fail;refine kf (λ_=>True) ((((Hold.nil w).alloc w 136 (aA m)).alloc (w.heap.size+1) 39 [jK h,jK n]).alloc (aN w) 136 (xl 0 0)) trivial (λV t _=>?_);refine(QO V t.below).mono ?_;rintro e L⟨rfl,z⟩;replace t:=ah (t.call z);clear z QO;have x:=fk (t.facts);have r:jT m=g? #[i? T v,jJ m.s.kind,jJ m.s.level]:=by rw[jT,q]
 rw[r];have hz:w.heap.size+1+1<L.heap.size:=x.1;go_wp2_with fail;refine kf (λ_=>True) ((t.alloc L 169 [i? T v,jJ m.s.kind,jJ m.s.level] rfl).alloc (dE L) 39 [jK h,jK n]) trivial (λV2 d _=>?_);clear x t r;generalize L.heap.size=bx at*;have Y:=fk (d.at_ 0);refine(K V2 _ d.below (IV.later d.below) Y).mono ?_;rintro e w3⟨c,o,rfl,j,f,C⟩;have α:bx<V2.heap.size:=(d.blk _ (ac 1)).2.lt;replace d:=ah (d.call C);have N:Hid (GK c.s):=by rw[o];exact(Wk J hh hn).1
 obtain⟨T2,X,R⟩:=kv c;have r:jT c=g? #[i? T2 X,jJ c.s.kind,jJ c.s.level]:=by rw[jT,R]
 rw[r];have Yx:=ah o;clear C K o;have x:=fk (d.facts);go_wp2_with fail;have D:=aS (d.all 1 [i? T2 X,jJ c.s.kind,jJ c.s.level]);have xM:=aS (jY.lp (g:=bx) (f.mono λb q=>jS) [i? T2 X,jJ c.s.kind,jJ c.s.level] 0 j);refine kf (λV=>jY V V c) D xM (λQ y rm=>?_);have QT:=ah (xg c N Q rm);rw[r]at QT;clear x D xM d j f r;refine QT.mono ?_;rintro e w5⟨p,N1,rfl,uH,k,F⟩;have Rg:w.heap.size+1+1<Q.heap.size:=by have:=(y.blk _ (ac 1)).2.lt;simp only at this;omega
 replace y:=ah (y.call F);have Fk:Hid (p.s=wQ m.s h n):=N1.trans Yx;clear F QT N1;have x:=fk (y.facts);unfold nT;go_wp2_with fail;have D:=aS (y.all 2 (aA p));have A:lY (·≠w.heap.size+1+1) p:=k.inn.mono λb(q:Q.heap.size<=b)=>jS;have G6:=aS (jY.lp A (aA p) 0 uH);refine kw (λV=>jY V V p) D G6 (λV9 H9 nZ=>?_);have G:=k.mono (B':=w.heap.size) jS;have Y:=fk (H9.at_ 2);clear x D G6 A k y;refine jF (v:=d? #[g? (aB p),jJ 0]) (by simp[results,Tryz.results95,go_sem,Y]) rfl ?_;exact⟨p,Fk,rfl,nZ,G,H9.below⟩
def ES(m:SkM)(o:GK m.s)(T:jH)(v:jD)(b:O)(c:I)(A:IntKind.i64.wrap (c+16)=c+16)(k:(T=294/\b=285)\/(T=297/\b=314)\/(T=298/\b=324)\/(T=300/\b=343))(n:kK m=i? T v)(w:jC)(l:jY w w m)(a:∀w',Below w w w'->jE Tryz.prog b #[v] w' λe j=>e=a? (c? o? c)/\Below w' w' j):jE Tryz.prog 100 #[nT m] w λe w'=>e=a? (c? o? (c+16))/\Below w w w':=by
 have q:(lI 9 w m):=λw' h=>vu m o.right w' (l.later h) o.fit;have y:=ah a;have t:∀(x:jD)(w:jC),(gz 640 T x "aviary/ladder.cost").run Tryz.prog w=.ok (b,x) w:=by rcases k with⟨rfl,rfl⟩|⟨rfl,rfl⟩|⟨rfl,rfl⟩|⟨rfl,rfl⟩<;>exact λ_ _=>oo
 clear l a;go_in;unfold nT at*;go_wp2_with fail;refine kf (λ_=>True) ((Hold.nil w).alloc w 136 (aA m)) trivial (λV f _=>?_);refine(q V f.below).mono ?_;rintro e B⟨rfl,d⟩;replace f:=ah (f.call d);have p:jT m=g? #[i? T v,jJ m.s.kind,jJ m.s.level]:=by rw[jT,n]
 rw[p];clear d q p n;rcases k with⟨rfl,rfl⟩|⟨rfl,rfl⟩|⟨rfl,rfl⟩|⟨rfl,rfl⟩
 all_goals
  go_wp2_with fail;refine(y _ (f.al _).below).mono ?_;rintro e z⟨rfl,g⟩;have r:=((f.al _).call g).below;go_wp2;go_ret;exact⟨rfl,r⟩
def MG(m:SkM)(o:GK m.s)(T:jH)(v:jD)(b:O)(c:I)(h:I)(k:(T=294/\b=284)\/(T=297/\b=313)\/(T=298/\b=323)\/(T=300/\b=342))(n:kK m=i? T v)(w:jC)(l:jY w w m)(a:∀w',Below w w w'->jE Tryz.prog b #[v,jK h] w' λe j=>e=a? (c? n? c)/\Below w' w' j):jE Tryz.prog 60 #[nT m,jK h] w λe w'=>e=a? (c? n? c)/\Below w w w':=by
 have q:(lI 9 w m):=λw' h=>vu m o.right w' (l.later h) o.fit;have y:=ah a;have t:∀(x:jD)(w:jC),(gz 640 T x "aviary/ladder.ask").run Tryz.prog w=.ok (b,x) w:=by rcases k with⟨rfl,rfl⟩|⟨rfl,rfl⟩|⟨rfl,rfl⟩|⟨rfl,rfl⟩<;>exact λ_ _=>oo
 clear l a;go_in;unfold nT at*;go_wp2_with fail;refine kf (λ_=>True) ((Hold.nil w).alloc w 136 (aA m)) trivial (λV f _=>?_);refine(q V f.below).mono ?_;rintro e A⟨rfl,d⟩;replace f:=ah (f.call d);have p:jT m=g? #[i? T v,jJ m.s.kind,jJ m.s.level]:=by rw[jT,n]
 rw[p];clear d q p n;rcases k with⟨rfl,rfl⟩|⟨rfl,rfl⟩|⟨rfl,rfl⟩|⟨rfl,rfl⟩
 all_goals
  go_wp2_with fail;refine(y _ (f.al _).below).mono ?_;rintro e z⟨rfl,g⟩;have r:=((f.al _).call g).below;go_wp2;go_ret;exact⟨rfl,r⟩
def NJ(m:SkM)(j:GK m.s)(w:jC)(q:jY w w m):jE Tryz.prog 100 #[nT m] w λe w'=>e=a? (c? o? (wM m.s+16))/\Below w w w':=by
 have f:=q;have h:=j.fit;have d:=j;obtain⟨s,x,B,z,y,r,A⟩:=m;simp only at j h
 cases j with
 |num e k p=>
  have a:=h.e;exact ES _ d 294 _ 285 (8*(e.length:I)) (dv _ (by simp only at a;omega)) (r? ⟨rfl,rfl⟩) rfl w f λw' _=>Gl x e B a w'
 |reg b l G D k=>
  have a:=h.regs;have o:¬((8:I)-b=0):=jS;have v:wM (lI 14 b l)=((Hl.bs l).size:I):=by simp[wM,o]
  simp only[v];exact ES _ d 297 _ 314 ((Hl.bs l).size:I) (dv _ (by simp only at a;omega)) (s? (r? ⟨rfl,rfl⟩)) (by simp[kK,hV,o]) w f λw' _=>Gd b (Hl.bs l) a w'
 |cnt n C c t F k p=>
  have a:=h.c;exact ES _ d 298 _ 324 (8*(c.length:I)) (dv _ (by simp only at a;omega)) (s? (s? (r? ⟨rfl,rfl⟩))) rfl w f λw' _=>Ii 2 C z c y a w'
 |zB n g t k p=>
  have a:=h.g;exact ES _ d 300 _ 343 (16*(g.length:I)) (dv _ (by simp only at a;omega)) (s? (s? (s? ⟨rfl,rfl⟩))) rfl w f λw' _=>Iq (3-n) r g A a w'
def GO(m:SkM)(k:GK m.s)(h:I)(r:U h)(w:jC)(j:jY w w m):jE Tryz.prog 60 #[nT m,jK h] w λe w'=>e=a? (c? n? (rt m.s h))/\Below w w w':=by
 have d:=j;have o:=k.fit;have a:=k;obtain⟨s,z,F,B,A,v,D⟩:=m;simp only at k o
 cases k with
 |num e p n=>exact MG _ a 294 _ 284 _ h (r? ⟨rfl,rfl⟩) rfl w d λw' f=>JT z e F h o.e w' (j.later f).e
 |reg b l J G p=>
  have t:¬((8:I)-b=0):=jS;have y:rt (lI 14 b l) h=((Hl.vH b (lQ (Hl.bs l)):O):I):=by simp[rt,t]
  simp only[y];exact MG _ a 297 _ 313 _ h (s? (r? ⟨rfl,rfl⟩)) (by simp[kK,hV,t]) w d λw' _=>JG b (Hl.bs l) h w'
 |cnt q C c x H p n=>exact MG _ a 298 _ 323 _ h (s? (s? (r? ⟨rfl,rfl⟩))) rfl w d λw' f=>K7 2 C B c A h r n w' (j.later f).c
 |zB q g x p n=>exact MG _ a 300 _ 342 _ h (s? (s? (s? ⟨rfl,rfl⟩))) rfl w d λw' f=>La (3-q) v g D h r n o.g w' (j.later f).g
attribute [local go_sem] db
def Fy:∀(k:O)(s:Sk),sW (k+1) s=mG (sW k s)
 |0,_=>rfl
 |k+1,s=>Fy k (mG s)
variable{W:jC}
def Nt{b off:O}{v:jD}(h:W.cell? ⟨b,off,Z⟩=M v){o:Obj}(e:W.heap[b]? =M o)(d:o.isCells=u?):False:=by
 obtain⟨f,a,c⟩:=cells_of_cell h;simp only at a;rw[e]at a;cases a;rw[d]at c;cases c
variable{W':jC}{A:w? jG}{xs:E jD}{row:w? O}
def D9(h:Rd W W A xs)(c:W.grownBy W' row)(k:∀r,row=M r->(aH W r)):Rd W' W' A xs:=λm=>by
 obtain⟨b,a,e,f,d⟩:=h m;refine⟨b,a,e,cn f c.size,λj v g=>(co (c.block b f λl=>?_)).trans (d j v g)⟩;obtain⟨o,n,p⟩:=k b l.symm;exact Nt (d j v g) n p
def jY.kept{m:SkM}(h:jY W W m)(a:W.grownBy W' row)(b:∀r,row=M r->(aH W r)):jY W' W' m:=
 ⟨D9 h.e a b,D9 h.c a b,D9 h.g a b⟩
def Hold.kept{a W W':jC}{bs:E (O×jH×E jD)}{row:w? O}(h:Hold a W bs)(d:W.grownBy W' row)(f:∀r,row=M r->a.heap.size<=r/\(aH W r)):Hold a W' bs:=
 ⟨h.below.grown d h.size λr e=>(f r e).1,λb c=>⟨(h.blk b c).1,(h.blk b c).2.kept d λr e=>(f r e).2⟩,h.apart⟩
def GQ(h:Below W W W'):bj4 W W':=⟨h.size,λk o a _=>(h.block k (aw.1 a).1).trans a⟩
variable{P:bi3}{a:Act}
def NY{c:jC}{bs:E (O×jH×E jD)}{F:Fence}{n:O}{b:Func}{R:bi6->jC->Prop}{x:bk7}(G:jC->Prop)(H:Hold c W bs)(h:G W)(k:∀V,Hid (Hold c V bs)->G V->bodyPostM F n P b R x a V):bodyPostM F n P b R x a W:=k W (ah H) h
def yC{c:bk9}{K:Act->jC->Prop}{X:bk7->Act->jC->Prop}{w:jC}(h:c.wp P (Exit.then K λ_ _ _=>False) a w):c.wp P (Exit.then K X) a w:=jg (λe a w h=>by cases e<;>first|exact h|exact h.elim) h
def Yg(w:jC)(lo B d:O)(s:Sk)(c L:I)(a:I)(k:O)(W:jC):Prop:=
 ∃(m:SkM)(T:jH)(v:jD),m.s=sW k s/\kK m=i? T v/\jY W W m/\lY (λb=>b<lo\/B<=b) m/\Hold w W [(d,171,[j?]),(w.heap.size+1+1,169,cT),(w.heap.size+1,3,[jJ L]),(w,169,[i? T v,jJ c,jJ (a+k)])]
def Yg.kept{w W W':jC}{lo B f:O}{s:Sk}{b L a:I}{k:O}{row:w? O}(h:Yg w lo B f s b L a k W)(d:W.grownBy W' row)(c:∀r,row=M r->w.heap.size<=r/\(aH W r)):Yg w lo B f s b L a k W':=by
 obtain⟨m,T,v,j,o,g,n,l⟩:=h;exact⟨m,T,v,j,o,g.kept d (λr e=>(c r e).2),n,l.kept d c⟩
def ZG(lo:O)(s:Sk)(L:I)(n:O)(hn:n=(L-s.level).toNat)(Ξ:0<=s.level)(hl4:s.level<=4)(hL0:0<=L)(hL:L<=kn s.kind)(m:SkM)(T:jH)(v:jD)(hs:m.s=s)(J:kK m=.iface T v)(w:jC)(hm:jY w w m)(μ:lY (·<lo) m)(hlo:lo<=w.heap.size)(κ:∀k,k<=n->(sW k s).kind=s.kind/\(sW k s).level=s.level+k)(R:∀k(m:SkM) w',k<n->m.s=sW k s->jY w' w' m->jE Tryz.prog 182 #[jT m] w' (pJ lo w' (mG m.s))):bj2 cz 6 Tryz.prog 198 #[g? #[.iface T v,jJ s.kind,jJ s.level],jJ L] w (pJ lo w (sW n s)):=by
 have HN:=ah hn;have HL:=ah R;have δ:=ah κ;have hd:decide (kn s.kind<L)=u?:=ag;have l4:kn s.kind<=4:=by unfold kn;split;omega;split<;>omega
 have I4:=ah μ;have HM:Hid (∀w',Below w w w'->jY w' w' m):=λw' h=>hm.later h;have HS:=ah hs;have HB:=ah J;generalize s.kind=j at*;generalize s.level=d at*;clear R κ hm hs J μ hn;refine bi7 Tryz.func198 rfl trivial ?_ rfl;simp only[Tryz.ntmps198,xb,ao,dk];refine bi4.2 ?_;go_wp2_with fail;refine oN (λ_=>True) ((((Hold.nil w).alloc w 169 [.iface T v,jJ j,jJ d]).alloc (w.heap.size+1) 3 [jJ L]).alloc (aN w) 169 cT) trivial (λV HV _=>?_);have x:=fk (HV.facts);replace HV:=ah HV.drew;go_step3;go_wp2_with fail;refine yC ?_;go_region_held(λw'=>w'.cell? (aE w)=M (.int o? L)/\w'.cell? ⟨w,1,Z⟩=M (.int o? j)) (first|assumption|exact⟨x.2.2.2.2.2.1,x.2.2.2.2.2.2.2.2.1⟩|go_keep) ((go_at_call 112;refine(qI _ _).mono ?_;rintro r _⟨rfl,rfl⟩));generalize V.drew=V1 at*;clear x;go_wp2_with fail;refine oN (λ_=>True) (HV.alloc V1 171 [j?] rfl) trivial (λV2 H2 _=>?_);have hz:w.heap.size+1+1<V1.heap.size:=(HV.blk _ ab).2.lt;clear HV;generalize V1.heap.size=Y at*;have x:=fk (H2.facts);go_step3;go_wp2_with fail;refine(Kc d _).mono ?_;rintro e _⟨rfl,rfl⟩;go_wp2_with fail;refine oN (λW=>jR W V2 3 #[jJ d]) (H2.al (m? #[jJ d] 3)) (jR.new V2 _ _) (λV3 H3 ν=>?_);have hz2:Y<V2.heap.size:=x.1;clear x H2;generalize V2.heap.size=gb at*;have Ψ:=ν.lt;refine(bi4 (n:=6)).1 ?_;have β:Yg w lo V3.heap.size Y s j L d 0 V3:=⟨m,T,v,HS.out,HB.out,HM.out _ H3.out.below,I4.out.mono λb J=>r? J,by simpa using H3.out⟩;refine yA (α:=I) (q:=λ_=>False) (N:=n+1) (Bd:=λa=>a.length<=n) (Nx:=λa x=>x=d+a.length) rfl (by omega) (gf:=258) (lb:=#[jO gb]) rfl trivial (enters_of Tryz.func258 (by kernel_rfl) rfl)
  (Kb 5 n gb (by omega) d Ξ (by omega) (by have:=HN.out;omega) V3 Ψ ν)
  (λ_ _=>trivial) (λ_ _ _ _ _ _ _ _=>trivial) (Below.refl _ _) (λ_=>rfl) (λr h=>h.elim)
  (λa W=>Yg w lo V3 Y s j L d a.length W/\a.length<=n) (λc a W=>c=.exit 0/\Yg w lo V3 Y s j L d n W)
  (λa A B row h hg hr=>⟨h.1.kept hg λr e=>⟨by have:=(hr r e).1;have:=H3.size;omega,(hr r e).2⟩,h.2⟩) (λc a A B row h hg hr=>⟨h.1,h.2.kept hg λr e=>⟨by have:=(hr r e).1;have:=H3.size;omega,(hr r e).2⟩⟩) (λ_ _ _ _ _ _ h=>h.elim) (λ_ _ _ _ _ _ _ h=>h.elim) (λa W h=>h.2) ⟨β,be _⟩
  (λx=>{tmps:=#[g? #[.iface T v,.int o? j,.int o? d],.int o? L,aV w,.pointer (M (aE w)),.pointer (M (aG w)),j?,.pointer (aC Y),.int o? x,.int o? L,.pointer (M ⟨w.heap.size,1,Z⟩),.int o? j,.int o? (kn j),.bool u?,undef,undef,undef,undef,.pointer (M ⟨w.heap.size,2,Z⟩),.int o? d,.func (.func 258) #[] #[.pointer (aC gb)],.int o? x,undef,undef,undef,undef,undef,undef,undef,undef,undef,undef,undef,undef,undef,undef],defers:=[]})
  ?assign ?body ?done ?stop
 case assign=>
  intro l x W K hK;gi_wp2;exact hK
 case done=>exact λ_ _ _ _ h=>h.elim
 case body=>
  rintro l' a x W⟨⟨m1,F,Q,t,z,f,o,hH⟩,hk⟩ hsz hlt rfl;have H:=ah hH;have Γ:=ah z;have DG:=ah t;obtain⟨k1,k2⟩:=δ a.length hk;have ew:jT m1=g? #[.iface F Q,jJ j,jJ (d+(a.length:I))]:=by rw[jT,z,t,k1,k2]
  have xx:=fk (H.facts);have C:(a++[d+(a.length:I)]).length=a.length+1:=lV;have Zb:=H3.size;clear hH β z t;by_cases ε:a.length=n
  .have d1:decide (L<=d+(a.length:I))=t?:=F? (by have:=HN.out;omega);have Δ:Yg w lo V3 Y s j L d n W:=⟨m1,F,Q,ε▸DG,Γ,f,o,by rw[<-ε];exact H⟩;clear ew k1 k2 ε f o;gi_wp2_with fail;exact⟨gq _,rfl,Δ⟩
  have d1:decide (L<=d+(a.length:I))=u?:=E? (by have:=HN.out;omega);obtain⟨q1,q2⟩:=δ (a.length+1) jS;have QL:=ah (HL a.length m1 W (by omega) DG f);rw[ew]at QL;clear ew k1 k2;gi_wp2_with fail;refine⟨trivial,?_⟩;refine(d_ l' (jI.2 QL.out)).mono ?_;rintro e w4⟨m2,ξ,rfl,ψ,χ,γ⟩;have N1:m2.s=sW (a.length+1) s:=by rw[ξ,DG,Fy]
  obtain⟨T2,v2,η⟩:=kv m2;have Fh:jT m2=g? #[.iface T2 v2,jJ j,jJ (d+((a.length+1:O):I))]:=by rw[jT,η,N1,q1,q2]
  rw[Fh];have HK:=ah (GQ γ);replace H:=ah (H.call γ);have Yx:=ah N1;have Θ:=ah η;clear γ QL Fh ξ N1 η xx q1 q2 f;have xx:=fk (H.facts);gi_wp2_with fail;have HR:=aS ((H.all 3 [.iface T2 v2,jJ j,jJ (d+((a.length:I)+1))]).put 0 0 j?);have Xw:=χ.mono (q:=λb=>b<lo\/V3.heap.size<=b) λb J=>jS;have xM:=aS ((jY.lp (g:=w.heap.size) (Xw.mono λb J=>jS) [.iface T2 v2,jJ j,jJ (d+((a.length:I)+1))] 0 ψ).put (g:=Y) (i:=0) (v:=j?) (Xw.mono λb J=>jS));refine⟨HK.trans ((((b7 _ _ _).trans (b7 _ _ _)).trans (b7 _ _ _)).trans (b7 _ _ _)),trivial,⟨m2,T2,v2,by rw[C];exact Yx,Θ,xM,Xw,?_⟩,by rw[C];omega⟩;rw[C,show((a.length+1:O):I)=(a.length:I)+1 by omega];exact HR
 rintro D c' a W hD-⟨rfl,m1,F,Q,t,z,f,o,hH⟩ hK;have H:=ah hH;have Γ:=ah z;have DG:=ah t;have HD:=ah hK;have Zb:=H3.size;have xx:=fk (H.facts);obtain⟨k1,k2⟩:=δ n aa;have ew:jT m1=g? #[.iface F Q,jJ j,jJ (d+(n:I))]:=by rw[jT,z,t,k1,k2]
 have HW:=ah ew;clear hH β z t hK ew k1 k2;refine bi4.2 ?_;go_wp2_with fail;have H0:=H;replace H:=ah H.drew;refine yC ?_;go_region_held(λw'=>w'.cell? ⟨w,0,Z⟩=M (.iface F Q)/\w'.cell? ⟨w,1,Z⟩=M (.int o? j)/\w'.cell? ⟨w,2,Z⟩=M (.int o? (d+(n:I)))/\w'.cell? ⟨Y,0,Z⟩=M j?) (first|assumption|(have y:=H.facts;simp only[Facts,kz,au,ao,I?]at y;exact⟨y.2.2.2.2.2.2.2.2.2.2.2.1,y.2.2.2.2.2.2.2.2.2.2.2.2.1,y.2.2.2.2.2.2.2.2.2.2.2.2.2,y.2.2.1⟩)|(have y:=(H.all 1 [.iface F Q,jJ j,jJ (d+(n:I))]).facts;simp only[lp,ak,am,Facts,kz,au,ao,I?]at y;exact⟨y.2.2.2.2.2.2.2.2.2.2.2.1,y.2.2.2.2.2.2.2.2.2.2.2.2.1,y.2.2.2.2.2.2.2.2.2.2.2.2.2,y.2.2.1⟩)) (fail);have HR:=aS ((H0.all 1 [.iface F Q,jJ j,jJ (d+(n:I))]).drew);have rm:=aS (jY.lp (g:=w.heap.size+1+1) (o.mono λb J=>jS) [.iface F Q,jJ j,jJ (d+(n:I))] 0 f);have θ:D≠w.heap.size+1+1:=jS;clear xx H H0 f;go_wp2;try rw[cf]
 refine NY (λV=>jY V V m1/\V.heap[D]? =M (aY)) HR ⟨⟨rm.e,rm.c,rm.g⟩,((Below.heap_setCell _ ⟨w.heap.size+1+1,2,Z⟩ _ D θ).trans ((Below.heap_setCell _ (bZ w) _ D θ).trans (Below.heap_setCell W (aG w) _ D θ))).trans HD⟩ (λV H9 hV=>?_);clear HR rm;obtain⟨nZ,φ⟩:=hV;have X:∀r,M D=M r->w.heap.size<=r/\(aH V r):=λr e=>by cases e;exact⟨jS,_,φ,rfl⟩
 refine⟨lV,r? ⟨_,_,rfl,bi2 φ,?_⟩⟩;have ω:=H9.kept (bj5 V D cJ) X;have Ω:=nZ.kept (bj5 V D cJ) λr e=>(X r e).2;have hq:=fk (ω.at_ 1);exact⟨.tuple #[g? #[.iface F Q,jJ j,jJ (d+(n:I))],j?],by simp[results,Tryz.results198,go_sem,hq],m1,DG,by rw[HW],Ω,o.mono λb J=>jS,ω.below⟩
def LC(lo:O)(m:SkM)(c:GK m.s)(L:I)(g:0<=L)(y:L<=kn m.s.kind)(w:jC)(q:jY w w m)(b:lY (·<lo) m)(d:lo<=w.heap.size):jE Tryz.prog 198 #[jT m,jJ L] w (pJ lo w (sW (L-m.s.level).toNat m.s)):=by
 obtain⟨T,v,n⟩:=kv m;obtain⟨z,r,_,_⟩:=sI c;have A:kn m.s.kind<=4:=by unfold kn;split;omega;split<;>omega
 have x:jT m=g? #[i? T v,jJ m.s.kind,jJ m.s.level]:=by rw[jT,n]
 rw[x];have a:∀k,k<=(L-m.s.level).toNat->m.s.level+k<=kn m.s.kind:=λk e=>by
  rcases fM k with rfl|h
  .simpa using r
  omega
 refine jI.1 (ZG lo m.s L _ rfl z jS g y m T v rfl n w q b d (λk e=>(Jd k c (a k e)).2) λk t w' e p f=>?_);obtain⟨l,o,j⟩:=Jd k c (a k jS);rw[<-p]at l o j;exact Em t l (by rw[o,j];omega) lo w' f
def De{e:jC}{bs:E (O×jH×E jD)}{f:fD}{d:x? bk0}{Q:bk7->Act->jC->Prop}{S:jC->Prop}{c:O}{b:x? z?}(F:jC->Prop)(H:Hold e W bs)(h:F W)(k:∀V,Hid (Hold e V bs)->F V->wpAnyH P f d Q S c b a V):wpAnyH P f d Q S c b a W:=k W (ah H) h
def DI(lo:O)(w:jC)(s t:Sk)(e:bi6)(w':jC):Prop:=∃m p:SkM,m.s=s/\p.s=t/\e=a? (d? #[jT m,jT p,j?])/\jY w' w' m/\jY w' w' p/\lY (λb=>b<lo\/w.heap.size<=b) m/\lY (λb=>b<lo\/w.heap.size<=b) p/\Below w w w'
def Hv(lo:O)(m p:SkM)(hG:GK m.s)(N3:GK p.s)(L:I)(N:0<=L)(hL:L<=kn m.s.kind)(δ:L<=kn p.s.kind)(w:jC)(hm:jY w w m)(hp:jY w w p)(Y:lY (·<lo) m)(uI:lY (·<lo) p)(ψ:lo<=w.heap.size):jE Tryz.prog 155 #[jT m,jT p,jJ L] w (DI lo w (sW (L-m.s.level).toNat m.s) (sW (L-p.s.level).toNat p.s)):=by
 have Q1:Hid (∀w',Below w w w'->jE Tryz.prog 198 #[jT m,jJ L] w' (pJ lo w' (sW (L-m.s.level).toNat m.s))):=λw' h=>LC lo m hG L N hL w' (hm.later h) Y (by have:=h.size;omega);have Q2:Hid (∀w',Below w w w'->jE Tryz.prog 198 #[jT p,jJ L] w' (pJ lo w' (sW (L-p.s.level).toNat p.s))):=λw' h=>LC lo p N3 L N δ w' (hp.later h) uI (by have:=h.size;omega);obtain⟨T,v,j⟩:=kv m;obtain⟨Tp,vp,ε⟩:=kv p;generalize sW (L-m.s.level).toNat m.s=s1 at*;generalize sW (L-p.s.level).toNat p.s=s2 at*;unfold jT at Q1 Q2⊢;rw[j]at Q1⊢;rw[ε]at Q2⊢;clear hm hp Y uI hG N3 hL δ N j ε;go_in;go_wp2_with fail;refine kf (λ_=>True) (((((Hold.nil w).alloc w 169 [i? T v,jJ m.s.kind,jJ m.s.level]).alloc (w.heap.size+1) 169 [i? Tp vp,jJ p.s.kind,jJ p.s.level]).alloc (aN w) 169 cT).alloc (cC w) 169 cT) trivial (λV K _=>?_);have hz:w.heap.size+1+1+1<V.heap.size:=(K.blk _ ab).2.lt;refine(Q1 V K.below).mono ?_;rintro e w1⟨d,κ,rfl,A,H,γ⟩;replace K:=ah (K.call γ);obtain⟨C,F,α⟩:=kv d;have KJ:jT d=g? #[i? C F,jJ d.s.kind,jJ d.s.level]:=by rw[jT,α]
 rw[KJ];subst κ;have uL:=ah KJ;clear γ Q1 KJ α;have x:=fk (K.facts);go_wp2_with fail;have f:=aS (K.all 3 [i? C F,jJ d.s.kind,jJ d.s.level]);have uY:=H.mono (q:=λb=>b<lo\/w.heap.size+1+1+1<b) λb j=>jS;have G:=aS (jY.lp (g:=w.heap.size) (uY.mono λb j=>jS) [i? C F,jJ d.s.kind,jJ d.s.level] 0 A);refine kf (λV=>jY V V d) f G (λV2 W Ks=>?_);clear x f K G A;have ω:w.heap.size+1+1+1<V2.heap.size:=(W.blk _ ab).2.lt;refine(Q2 V2 W.below).mono ?_;rintro e w3⟨p1,ν,rfl,wA,uI,J⟩;replace W:=ah (W.call J);replace Ks:=Ks.later J;obtain⟨t,r,β⟩:=kv p1;have Fh:jT p1=g? #[i? t r,jJ p1.s.kind,jJ p1.s.level]:=by rw[jT,β]
 rw[Fh];subst ν;have η:=ah Fh;clear J Q2 Fh β;have x:=fk (W.facts);go_wp2_with fail;have f:=aS (W.all 2 [i? t r,jJ p1.s.kind,jJ p1.s.level]);have wB:=uI.mono (q:=λb=>b<lo\/w.heap.size+1+1+1<b) λb j=>jS;have xM:=aS (jY.lp (g:=w.heap.size+1) (wB.mono λb j=>jS) [i? t r,jJ p1.s.kind,jJ p1.s.level] 0 wA);have n:=aS (jY.lp (g:=w.heap.size+1) (uY.mono λb j=>jS) [i? t r,jJ p1.s.kind,jJ p1.s.level] 0 Ks);refine oN (λV=>jY V V d/\jY V V p1) f ⟨n,xM⟩ (λV4 H4 X=>?_);have μ:jY V4.drew V4.drew.heap.size d:=⟨X.1.e,X.1.c,X.1.g⟩;have ξ:jY V4.drew V4.drew.heap.size p1:=⟨X.2.e,X.2.c,X.2.g⟩;have H5:=ah H4.drew;clear x f W Ks xM n wA X H4;have y:=fk (H5.at_ 3);have z:=fk (H5.at_ 2);refine bi1 (S:=λw'=>w'.cell? ⟨w,0,Z⟩=M (i? C F)/\w'.cell? ⟨w,1,Z⟩=M (c? o? d.s.kind)/\w'.cell? ⟨w,2,Z⟩=M (c? o? d.s.level)/\w'.cell? (aE w)=M (i? t r)/\w'.cell? (bS w)=M (c? o? p1.s.kind)/\w'.cell? (bW w)=M (c? o? p1.s.level)) oo ⟨y.1,y.2.1,y.2.2,z⟩ (λk=>?_);generalize V4.drew=V5 at*;refine re k ?_;clear y z k;have x:=fk (H5.at_ 1);have fz:∀i,V5.frozen? ⟨w.heap.size+1+1,i,Z⟩=u?:=(H5.blk _ (ac 1)).2.frozen;refine pL 3 λK0 D=>?_;go_simp;have f:=H5.all 1 [i? C F,jJ d.s.kind,jJ d.s.level];have n:=jY.lp (g:=w.heap.size+1+1) (uY.mono λb j=>jS) [i? C F,jJ d.s.kind,jJ d.s.level] 0 μ;have R:=jY.lp (g:=w.heap.size+1+1) (wB.mono λb j=>jS) [i? C F,jJ d.s.kind,jJ d.s.level] 0 ξ;have y:=f.at_ 3;have z:=f.at_ 2;simp only[lp,ak,am,kz,au,ao,I?]at f n R y z;refine D.out _ _ ⟨y.1,y.2.1,y.2.2,z⟩ (λ_=>?_);refine az ?_;refine De (λV=>jY V V d/\jY V V p1) f ⟨n,R⟩ (λV6 H6 hV=>?_);obtain⟨ρ,θ⟩:=hV;clear x fz f n R y z D K0;have x:=fk (H6.at_ 0);have fz:∀i,V6.frozen? ⟨cC w,i,Z⟩=u?:=(H6.blk _ (ac 0)).2.frozen;refine pL 4 λK0 D=>?_;go_simp;have f:=H6.all 0 [i? t r,jJ p1.s.kind,jJ p1.s.level];have n:=jY.lp (g:=(cC w)) (uY.mono λb j=>jS) [i? t r,jJ p1.s.kind,jJ p1.s.level] 0 ρ;have R:=jY.lp (g:=(cC w)) (wB.mono λb j=>jS) [i? t r,jJ p1.s.kind,jJ p1.s.level] 0 θ;have y:=f.at_ 3;have z:=f.at_ 2;simp only[lp,ak,am,kz,au,ao,I?]at f n R y z;refine D.out _ _ ⟨y.1,y.2.1,y.2.2,z⟩ (λ_=>?_);refine az ?_;refine De (λV=>jY V V d/\jY V V p1) f ⟨n,R⟩ (λV7 H7 hV=>?_);obtain⟨χ,φ⟩:=hV;clear x fz f n R y z D K0;have y:=fk (H7.at_ 3);have z:=fk (H7.at_ 2);refine pL 5 λK0 D=>?_;go_simp;refine D.out _ _ ⟨y.1,y.2.1,y.2.2,z⟩ (λ_=>?_);refine az ?_;clear D K0 y z;refine hdn ?_;go_wp2_with fail;have hq:=fk (H7.at_ 1);have hr:=fk (H7.at_ 0);refine jF (v:=d? #[g? #[i? C F,jJ d.s.kind,jJ d.s.level],g? #[i? t r,jJ p1.s.kind,jJ p1.s.level],j?]) (by simp[results,Tryz.results155,go_sem,hq,hr]) rfl ?_;exact⟨d,p1,rfl,rfl,by rw[uL,η],χ,φ,H.mono λb j=>jS,uI.mono λb j=>jS,H7.below⟩
def lY.empty{p:O->Prop}{m:SkM}(h:m.s.e=[]/\m.s.c=[]/\m.s.g=[]):lY p m:=⟨λx=>H? h.1 x,λx=>H? h.2.1 x,λx=>H? h.2.2 x⟩
def wk(lo:O)(m p:SkM)(hk:m.s.kind=p.s.kind)(a b C:Sk)(h1:C.kind=a.kind)(h2:C.level=a.level)(T:jH)(A:O)(hp:(T=294/\A=287)\/(T=297/\A=316)\/(T=298/\A=326)\/(T=300/\A=345))(w:jC)(θ:lo<=w.heap.size)(G8:∀w',Below w w w'->jE Tryz.prog 155 #[jT m,jT p,jJ (max m.s.level p.s.level)] w' (DI lo w' a b))(hT:∀c:SkM,c.s=a->∃v,kK c=i? T v)(Ri:∀(c p1:SkM)(v:jD) w',c.s=a->p1.s=b->kK c=i? T v->jY w' w' c->jY w' w' p1->jE Tryz.prog A #[v,kK p1] w' (oW w' C)):jE Tryz.prog 110 #[jT m,jT p] w (pJ lo w C):=by
 have Q1:=ah G8;have HT:=ah hT;have HQ:=ah Ri;have HE:Hid (C.kind=a.kind/\C.level=a.level):=⟨h1,h2⟩;have κ:∀(x:jD)(w:jC),(gz 640 T x "aviary/ladder.merge").run Tryz.prog w=.ok (A,x) w:=by rcases hp with⟨rfl,rfl⟩|⟨rfl,rfl⟩|⟨rfl,rfl⟩|⟨rfl,rfl⟩<;>exact λ_ _=>oo
 clear G8 hT Ri h1 h2;obtain⟨T0,v0,R⟩:=kv m;obtain⟨ε,η,Rs⟩:=kv p;unfold jT at Q1⊢;rw[R,Rs]at Q1⊢;rw[<-hk]at Q1⊢;clear R Rs hk;go_in;go_wp2_with fail;refine kf (λ_=>True) ((((Hold.nil w).alloc w 169 [i? T0 v0,jJ m.s.kind,jJ m.s.level]).alloc (w.heap.size+1) 169 [i? ε η,jJ m.s.kind,jJ p.s.level]).alloc (aN w) 169 cT) trivial (λV z _=>?_);have x:=fk (z.facts);refine(Q1 V z.below).mono ?_;rintro e w1⟨c,p1,j,L,rfl,k,wA,β,uI,W⟩;have hz:w.heap.size+1+1<V.heap.size:=x.1;replace z:=ah (z.call W);obtain⟨Tb,vb,t⟩:=kv p1;obtain⟨F,y⟩:=HT c j;have KJ:jT c=g? #[i? T F,jJ c.s.kind,jJ c.s.level]:=by rw[jT,y]
 have Fh:jT p1=g? #[i? Tb vb,jJ p1.s.kind,jJ p1.s.level]:=by rw[jT,t]
 rw[KJ,Fh];clear W Q1 KJ Fh x;have x:=fk (z.facts);have N:=aS ((z.all 2 [i? T F,jJ c.s.kind,jJ c.s.level]).all 1 [i? Tb vb,jJ p1.s.kind,jJ p1.s.level]);have uY:=β.mono (q:=λb=>b<lo\/w.heap.size+1+1<b) λb n=>jS;have wB:=uI.mono (q:=λb=>b<lo\/w.heap.size+1+1<b) λb n=>jS;have K:=aS (jY.lp (g:=w.heap.size+1) (uY.mono λb n=>jS) [i? Tb vb,jJ p1.s.kind,jJ p1.s.level] 0 (jY.lp (g:=w.heap.size) (uY.mono λb n=>jS) [i? T F,jJ c.s.kind,jJ c.s.level] 0 k));have Q:=aS (jY.lp (g:=w.heap.size+1) (wB.mono λb n=>jS) [i? Tb vb,jJ p1.s.kind,jJ p1.s.level] 0 (jY.lp (g:=w.heap.size) (wB.mono λb n=>jS) [i? T F,jJ c.s.kind,jJ c.s.level] 0 wA));have HM:Hid (c.s=a):=j;have QM:Hid (∀w',jY w' w' c->jY w' w' p1->jE Tryz.prog A #[F,i? Tb vb] w' (oW w' C)):=λw' h h'=>by have:=HQ c p1 F w' j L y h h';rwa[t]at this
 clear j L y HQ HT t;rcases hp with⟨rfl,rfl⟩|⟨rfl,rfl⟩|⟨rfl,rfl⟩|⟨rfl,rfl⟩
 all_goals
  go_wp2_with fail;refine kf (λV=>jY V V c/\jY V V p1) N ⟨K,Q⟩ (λV4 l AP=>?_);obtain⟨Y,G⟩:=AP;clear x N K Q k wA z;have x:=fk (l.facts);refine(QM _ Y G).mono ?_;rintro e w5⟨r,hr,rfl,d,δ,γ⟩;have Rg:w.heap.size+1+1<V4.heap.size:=x.1;have f:Fr (cC w) r:=δ.mono jS;replace l:=ah (l.call γ);obtain⟨X,J,H⟩:=kv r;rw[H];clear γ QM x Y G;have x:=fk (l.facts);go_wp2_with fail;refine(AI _).mono ?_;rintro e w6⟨rfl,D⟩;replace l:=ah (l.call D);replace d:=d.later D;clear D x;have x:=fk (l.facts);go_wp2_with fail;have N:=aS ((l.put 2 0 (i? X J)).all 0 [i? X J,jJ c.s.kind,jJ c.s.level]);have o:=aS (jY.lp (g:=w.heap.size+1+1) (f.inn.mono λb n=>jS) [i? X J,jJ c.s.kind,jJ c.s.level] 0 (d.put (g:=w.heap.size) (i:=0) (v:=i? X J) (f.inn.mono λb n=>jS)));refine kw (λV=>jY V V r) N o (λV9 H9 nZ=>?_);have α:=f.inn.mono (q:=λb=>b<lo\/w.heap.size<=b) λb n=>s? jS;have hq:=fk (H9.at_ 0);clear x N o;refine jF (v:=d? #[g? #[i? X J,jJ c.s.kind,jJ c.s.level],j?]) (by simp[results,Tryz.results110,go_sem,hq]) rfl ?_;exact⟨r,hr,by rw[jT,H,hr,HE.1,HE.2,HM],nZ,α,H9.below⟩
def Gn(lo:O)(m p:SkM)(hk:m.s.kind=p.s.kind)(a b o Y s':Sk)(ha:a.level=0)(ε:o.e=[]/\o.c=[]/\o.g=[])(hz2:Y.e=[]/\Y.c=[]/\Y.g=[])(h1:s'.kind=o.kind)(h2:s'.level=o.level)(w:jC)(hE:Er w)(hlo:lo<=w.heap.size)(G8:∀w',Below w w w'->jE Tryz.prog 155 #[jT m,jT p,jJ (max m.s.level p.s.level)] w' (DI lo w' a b))(hT:∀d:SkM,d.s=a->∃v,kK d=i? 294 v)(J:∀(d p1:SkM)(v:jD) w',d.s=a->p1.s=b->kK d=i? 294 v->jY w' w' d->jY w' w' p1->jE Tryz.prog 287 #[v,kK p1] w' (I0 w'))(Rp:∀(d p1:SkM) w',d.s=a->p1.s=b->jY w' w' d->jY w' w' p1->jE Tryz.prog 155 #[jT d,jT p1,jJ 1] w' (DI w' w' o Y))(ψ:∀f:SkM,f.s=o->∃v,kK f=i? 297 v)(Ri:∀(f j:SkM)(v:jD) w',f.s=o->j.s=Y->kK f=i? 297 v->jY w' w' f->jY w' w' j->jE Tryz.prog 316 #[v,kK j] w' (oW w' s')):jE Tryz.prog 110 #[jT m,jT p] w (pJ lo w s'):=by
 have Q1:=ah G8;have HT:=ah hT;have HQ:=ah J;have Wp:=ah Ri;have ξ:=ah Rp;have κ:=ah ψ;have IV:=ah hE;have HA:=ah ha;have HZ1:=ah ε;have HZ2:=ah hz2;have HE:Hid (s'.kind=o.kind/\s'.level=o.level):=⟨h1,h2⟩;have mm1:∀(x:jD)(w:jC),(gz 640 294 x "aviary/ladder.merge").run Tryz.prog w=.ok (287,x) w:=λ_ _=>oo;have mm2:∀(x:jD)(w:jC),(gz 640 297 x "aviary/ladder.merge").run Tryz.prog w=.ok (316,x) w:=λ_ _=>oo;clear G8 hT J Rp ψ Ri hE ha h1 h2 ε hz2;obtain⟨T0,v0,ν⟩:=kv m;obtain⟨Tp0,vp0,Rs⟩:=kv p;unfold jT at Q1⊢;rw[ν,Rs]at Q1⊢;rw[<-hk]at Q1⊢;clear ν Rs hk;go_in;go_wp2_with fail;refine kf (λ_=>True) ((((Hold.nil w).alloc w 169 [i? T0 v0,jJ m.s.kind,jJ m.s.level]).alloc (w.heap.size+1) 169 [i? Tp0 vp0,jJ m.s.kind,jJ p.s.level]).alloc (aN w) 169 cT) trivial (λV T _=>?_);have x:=fk (T.facts);refine(Q1 V T.below).mono ?_;rintro e w1⟨d,p1,t,W,rfl,H,wA,Ψ,uI,ρ⟩;have hz:w.heap.size+1+1<V.heap.size:=x.1;replace T:=ah (T.call ρ);obtain⟨Tb,vb,C⟩:=kv p1;obtain⟨Q,D⟩:=HT d t;have KJ:jT d=g? #[i? 294 Q,jJ d.s.kind,jJ d.s.level]:=by rw[jT,D]
 have Fh:jT p1=g? #[i? Tb vb,jJ p1.s.kind,jJ p1.s.level]:=by rw[jT,C]
 rw[KJ,Fh];clear ρ Q1 KJ Fh x;have x:=fk (T.facts);have G:=aS ((T.all 2 [i? 294 Q,jJ d.s.kind,jJ d.s.level]).all 1 [i? Tb vb,jJ p1.s.kind,jJ p1.s.level]);have uY:=Ψ.mono (q:=λb=>b<lo\/w.heap.size+1+1<b) λb K=>jS;have wB:=uI.mono (q:=λb=>b<lo\/w.heap.size+1+1<b) λb K=>jS;have R:=aS (jY.lp (g:=w.heap.size+1) (uY.mono λb K=>jS) [i? Tb vb,jJ p1.s.kind,jJ p1.s.level] 0 (jY.lp (g:=w.heap.size) (uY.mono λb K=>jS) [i? 294 Q,jJ d.s.kind,jJ d.s.level] 0 H));have X:=aS (jY.lp (g:=w.heap.size+1) (wB.mono λb K=>jS) [i? Tb vb,jJ p1.s.kind,jJ p1.s.level] 0 (jY.lp (g:=w.heap.size) (wB.mono λb K=>jS) [i? 294 Q,jJ d.s.kind,jJ d.s.level] 0 wA));have χ:d.s.level=0:=by rw[t,HA]
 have QM:Hid (∀w',jY w' w' d->jY w' w' p1->jE Tryz.prog 287 #[Q,i? Tb vb] w' (I0 w')):=λw' h h'=>by have:=HQ d p1 Q w' t W D h h';rwa[C]at this
 have QE:Hid (∀w',jY w' w' d->jY w' w' p1->jE Tryz.prog 155 #[g? #[i? 294 Q,jJ d.s.kind,jJ 0],g? #[i? Tb vb,jJ p1.s.kind,jJ p1.s.level],jJ 1] w' (DI w' w' o Y)):=λw' h h'=>by have:=ξ d p1 w' t W h h';rwa[jT,jT,C,D,χ]at this
 rw[χ]at G R X⊢;clear t W D HQ HT C ξ;go_wp2_with fail;refine kf (λV=>jY V V d/\jY V V p1) G ⟨R,X⟩ (λV4 n AP=>?_);obtain⟨l,k⟩:=AP;clear x G R X H wA T;refine(QM _ l k).mono ?_;rintro e w5⟨bf,rfl,Γ,A⟩;have Rg:w.heap.size+1+1<V4.heap.size:=(n.blk _ ab).2.lt;replace n:=ah (n.call A);replace l:=l.later A;replace k:=k.later A;have uL:=ah (IV.later n.below);have hs5:=A.size;clear A QM;have x:=fk (n.facts);go_wp2_with fail;refine(Db bf _ uL Γ).mono ?_;rintro e w6⟨rfl,z⟩;replace n:=ah (n.call z);replace l:=l.later z;replace k:=k.later z;have hs6:=z.size;clear z x Γ;have x:=fk (n.facts);go_wp2_with fail;refine(QE _ l k).mono ?_;rintro e w7⟨f,j,F,γ,rfl,N,yH,L,aH2,φ⟩;replace n:=ah (n.call φ);obtain⟨Tc,vc,α⟩:=kv j;obtain⟨YQ,β⟩:=κ f F;have KJ:jT f=g? #[i? 297 YQ,jJ f.s.kind,jJ f.s.level]:=by rw[jT,β]
 have Fh:jT j=g? #[i? Tc vc,jJ j.s.kind,jJ j.s.level]:=by rw[jT,α]
 rw[KJ,Fh];have Θ:Hid (∀w',jY w' w' f->jY w' w' j->jE Tryz.prog 316 #[YQ,i? Tc vc] w' (oW w' s')):=λw' h h'=>by have:=Wp f j YQ w' F γ β h h';rwa[α]at this
 have HM:Hid (f.s=o):=F;have HP2:Hid (j.s=Y):=γ;clear φ QE KJ Fh x F γ β α Wp κ l k;have x:=fk (n.facts);have G:=aS ((n.all 2 [i? 297 YQ,jJ f.s.kind,jJ f.s.level]).all 1 [i? Tc vc,jJ j.s.kind,jJ j.s.level]);have μ:∀p,lY p f:=λp=>lY.empty (HM▸HZ1);have ω:∀p,lY p j:=λp=>lY.empty (HP2▸HZ2);have Ω:=aS (jY.lp (g:=w.heap.size+1) (μ _) [i? Tc vc,jJ j.s.kind,jJ j.s.level] 0 (jY.lp (g:=w.heap.size) (μ _) [i? 297 YQ,jJ f.s.kind,jJ f.s.level] 0 N));have Ξ:=aS (jY.lp (g:=w.heap.size+1) (ω _) [i? Tc vc,jJ j.s.kind,jJ j.s.level] 0 (jY.lp (g:=w.heap.size) (ω _) [i? 297 YQ,jJ f.s.kind,jJ f.s.level] 0 yH));go_wp2_with fail;refine kf (λV=>jY V V f/\jY V V j) G ⟨Ω,Ξ⟩ (λV8 H8 hV8=>?_);obtain⟨η,Δ⟩:=hV8;have hz8:w.heap.size+1+1<V8.heap.size:=(H8.blk _ ab).2.lt;clear x G Ω Ξ N yH n;refine(Θ _ η Δ).mono ?_;rintro e w9⟨r,hr,rfl,δ,hfr,nu⟩;have y:Fr (cC w) r:=hfr.mono jS;replace H8:=ah (H8.call nu);obtain⟨Tr,vr,θ⟩:=kv r;rw[θ];clear nu Θ η Δ;have x:=fk (H8.facts);go_wp2_with fail;have G:=aS ((H8.put 2 0 (i? Tr vr)).all 0 [i? Tr vr,jJ f.s.kind,jJ f.s.level]);have Ks:=aS (jY.lp (g:=w.heap.size+1+1) (y.inn.mono λb K=>jS) [i? Tr vr,jJ f.s.kind,jJ f.s.level] 0 (δ.put (g:=w.heap.size) (i:=0) (v:=i? Tr vr) (y.inn.mono λb K=>jS)));refine kw (λV=>jY V V r) G Ks (λV9 H9 nZ=>?_);have L:=y.inn.mono (q:=λb=>b<lo\/w.heap.size<=b) λb K=>s? jS;have hq:=fk (H9.at_ 0);clear x G Ks;refine jF (v:=d? #[g? #[i? Tr vr,jJ f.s.kind,jJ f.s.level],j?]) (by simp[results,Tryz.results110,go_sem,hq]) rfl ?_;exact⟨r,hr,by rw[jT,θ,hr,HE.1,HE.2,HM],nZ,L,H9.below⟩
def Hj{a b:Sk}(h:qu a b=t?):a.kind=1/\a.level=0:=by simp[qu]at h;exact⟨h.1,h.2.1⟩
def GK.JR{s:Sk}(h:GK s)(a:s.kind=1)(d:s.level=0):∃e,s=(bM e)/\Ex.kg e=t?/\Us e:=by
 cases h with
 |num e c f=>exact⟨e,rfl,c,f⟩
 |reg b l g j c=>simp only at d;omega
 |cnt=>simp at a
 |zB=>simp at a
def El(e:E I):mG (bM e)=(lz 5 e):=by simp[mG,T7]
def Fs(lo:O)(m p:SkM)(hG:GK m.s)(N3:GK p.s)(hk:m.s.kind=p.s.kind)(w:jC)(hE:Er w)(hm:jY w w m)(hp:jY w w p)(β:lY (·<lo) m)(uI:lY (·<lo) p)(R:lo<=w.heap.size):jE Tryz.prog 110 #[jT m,jT p] w (pJ lo w (mZ m.s p.s)):=by
 have l1:=sI hG;have X:=sI N3;rw[<-hk]at X;obtain⟨a1,a2,a3⟩:=Jd (max m.s.level p.s.level-m.s.level).toNat hG jS;obtain⟨b1,b2,b3⟩:=Jd (max m.s.level p.s.level-p.s.level).toNat N3 (by rw[<-hk];omega);have W:∀w',Below w w w'->jE Tryz.prog 155 #[jT m,jT p,jJ (max m.s.level p.s.level)] w' (DI lo w' _ _):=λw' h=>Hv lo m p hG N3 (max m.s.level p.s.level) jS jS (by rw[<-hk];omega) w' (hm.later h) (hp.later h) β uI (by have:=h.size;omega);have em:mZ m.s p.s=if qu (sW (max m.s.level p.s.level-m.s.level).toNat m.s) (sW (max m.s.level p.s.level-p.s.level).toNat p.s)=t? then p7 (mG (sW (max m.s.level p.s.level-m.s.level).toNat m.s)) (mG (sW (max m.s.level p.s.level-p.s.level).toNat p.s))else p7 (sW (max m.s.level p.s.level-m.s.level).toNat m.s) (sW (max m.s.level p.s.level-p.s.level).toNat p.s):=rfl
 have XP:(sW (max m.s.level p.s.level-m.s.level).toNat m.s).level=(sW (max m.s.level p.s.level-p.s.level).toNat p.s).level:=by rw[a3,b3];omega
 rw[em];clear em;generalize sW (max m.s.level p.s.level-m.s.level).toNat m.s=a at*;generalize sW (max m.s.level p.s.level-p.s.level).toNat p.s=b at*;have V:a.kind=b.kind:=by rw[a2,b2,hk]
 clear a2 a3 b2 b3 l1 X hG N3 β uI hm hp
 cases hf:qu a b with
 |true=>
  rw[B? rfl];obtain⟨k1,k2⟩:=Hj hf;obtain⟨e,rfl,Q,hu⟩:=a1.JR k1 k2;obtain⟨x,rfl,k,D⟩:=b1.JR (V▸k1) (XP▸k2);have α:64<(Ex.kp e x).length:=by simp[qu]at hf;exact hf
  have γ:=pZ (B:=7) jS jS e;have Z5:=pZ (B:=7) jS jS x;have T:=sR _ (Hl.kU γ);have N:=sR _ (Hl.kU Z5);have em:=xH γ Z5;rw[El,El];refine Gn lo m p hk _ _ (lz 5 e) (lz 5 x) (p7 (lz 5 e) (lz 5 x)) rfl ⟨rfl,rfl,rfl⟩ ⟨rfl,rfl,rfl⟩ (by simp[p7]) (by simp[p7]) w hE R W ?_ ?_ ?_ ?_ ?_
  .intro n d;exact⟨eV n,by simp[kK,d]⟩
  .intro n p1 v w' d o t K L;obtain⟨s1,Y,ec,ca,cc,ga,gc⟩:=n;obtain⟨s2,F,z,f,J,H,G⟩:=p1;simp only at d o;subst d;subst o;have q:v=(dD Y e ec):=by simp[kK,eV]at t;exact t.symm
   have y:kK ⟨bM x,F,z,f,J,H,G⟩=i? 294 (dD F x z):=by simp[kK,eV]
   rw[q,y];exact Ee Y e ec F x z Q k α w' K.e L.e
  .intro n p1 w' d o K L;have g1:GK n.s:=by rw[d];exact a1
   have g2:GK p1.s:=by rw[o];exact b1
   have:=Hv w' n p1 g1 g2 1 jS (by rw[d];show(1:I)<=kn 1;decide) (by rw[o];show(1:I)<=kn 1;decide) w' K L K.inn L.inn aa;rw[d,o]at this;have t1:∀e,sW ((1:I)-((bM e):Sk).level).toNat (bM e)=(lz 5 e):=λe=>by rw[<-El];rfl
   rwa[t1,t1]at this
  .intro m2 d;exact⟨hV m2,by simp[kK,d]⟩
  intro m2 p2 v w' d o t K L;obtain⟨s1,Y,ec,ca,cc,ga,gc⟩:=m2;obtain⟨s2,F,z,f,J,H,G⟩:=p2;simp only at d o;subst d;subst o;have q:v=g? #[jJ ((7:O):I),jL (Hl.bs (bC e))]:=by simp[kK,hV]at t;exact t.symm
  have y:kK ⟨lz 5 x,F,z,f,J,H,G⟩=i? 297 (g? #[jJ ((7:O):I),jL (Hl.bs (bC x))]):=by simp[kK,hV]
  rw[q,y];have e3:p7 (lz 5 e) (lz 5 x)={kN 1 1 with bits:=(Hl.l8 ((7:O):I) (bC e) ((7:O):I) (bC x)).b,regs:=Hl.bs (Hl.l8 ((7:O):I) (bC e) ((7:O):I) (bC x)).l}:=by
   simp only[p7,kN,T,N,if_true,A? (show¬(1:I)=0 by omega)]
  rw[e3];exact wc _ _ _ _ 1 jS (Hl.l8 ((7:O):I) (bC e) ((7:O):I) (bC x)) (by rw[T,N,em.1]) w'
 |false=>
  rw[A? lV];obtain⟨q1,y,q3⟩:=JZ a1 b1 V XP hf
  cases a1 with
  |num e Q hu=>
   obtain⟨x,rfl,k,D⟩:=b1.JR V.symm XP.symm;have α:(Ex.kp e x).length<=64:=by simp[qu]at hf;exact hf
   refine wk lo m p hk _ _ _ y q3 294 287 (r? ⟨rfl,rfl⟩) w R W (λn d=>⟨eV n,by simp[kK,d]⟩) ?_;intro n p1 v w' d o t K L;obtain⟨s1,Y,ec,ca,cc,ga,gc⟩:=n;obtain⟨s2,F,z,f,J,H,G⟩:=p1;simp only at d o;subst d;subst o;have q:v=(dD Y e ec):=by simp[kK,eV]at t;exact t.symm
   have y:kK ⟨bM x,F,z,f,J,H,G⟩=i? 294 (dD F x z):=by simp[kK,eV]
   rw[q,y];exact Ef Y e ec F x z Q k α w' K.e L.e
  |reg A l K h7 Q=>
   cases b1 with
   |num=>simp only at XP;omega
   |reg b2 X μ κ k=>
    obtain rfl:A=b2:=by simp only at XP;omega
    have h0:¬((8:I)-A=0):=jS;have T:=sR l (Hl.kU Q);have N:=sR X (Hl.kU k);refine wk lo m p hk _ _ _ y q3 297 316 (s? (r? ⟨rfl,rfl⟩)) w R W (λn d=>⟨hV n,by simp[kK,d,h0]⟩) ?_;intro n p1 v w' d o t K L;obtain⟨s1,Y,ec,ca,cc,ga,gc⟩:=n;obtain⟨s2,F,z,f,J,H,G⟩:=p1;simp only at d o;subst d;subst o;have q:v=g? #[jJ A,jL (Hl.bs l)]:=by simp[kK,hV,h0]at t;exact t.symm
    have y:kK ⟨lI 14 A X,F,z,f,J,H,G⟩=i? 297 (g? #[jJ A,jL (Hl.bs X)]):=by simp[kK,hV,h0]
    rw[q,y];have e3:p7 (lI 14 A l) (lI 14 A X)={kN 1 (8-A)with bits:=(Hl.l8 A l A X).b,regs:=Hl.bs (Hl.l8 A l A X).l}:=by simp only[p7,kN,T,N,if_true,A? h0]
    rw[e3];exact wc _ _ _ _ (8-A) h0 (Hl.l8 A l A X) (by rw[T,N,(xH Q k).1]) w'
   |cnt=>simp at V
   |zB=>simp at V
  |cnt j C c t hC Q hu=>
   cases b1 with
   |num=>simp at V
   |reg=>simp at V
   |cnt Xj C2 c2 δ ε k D=>
    obtain rfl:j=Xj:=by simp only at XP;omega
    obtain rfl:C=C2:=hC.trans ε.symm;obtain⟨c',e1,_⟩:=CY Q k hu D;refine wk lo m p hk _ _ _ y q3 298 326 (s? (s? (r? ⟨rfl,rfl⟩))) w R W (λn d=>⟨cV n,by simp[kK,d]⟩) ?_;intro n p1 v w' d o t K L;obtain⟨s1,Y,ec,ca,cc,ga,gc⟩:=n;obtain⟨s2,F,z,f,J,H,G⟩:=p1;simp only at d o;subst d;subst o;have q:v=g? #[jJ 2,jJ C,jN ca c cc]:=by simp[kK,cV]at t;exact t.symm
    have y:kK ⟨oZ 22 j C c2,F,z,f,J,H,G⟩=i? 298 (g? #[jJ 2,jJ C,jN f c2 J]):=by simp[kK,cV]
    rw[q,y];have e3:p7 (oZ 22 j C c) (oZ 22 j C c2)={kN 2 j with rows:=(⟨2,C,c'⟩:Cm.Cm).r,cols:=(⟨2,C,c'⟩:Cm.Cm).c,c:=(⟨2,C,c'⟩:Cm.Cm).l}:=by simp[p7,kN,e1]
    rw[e3];exact EU 2 C ca c cc 2 C f c2 J j ⟨2,C,c'⟩ hu D e1 w' K.c L.c
   |zB=>simp at V
  |zB j g t Q hu=>
   cases b1 with
   |num=>simp at V
   |reg=>simp at V
   |cnt=>simp at V
   |zB Xj g2 δ k D=>
    obtain rfl:j=Xj:=by simp only at XP;omega
    obtain⟨e1,_⟩:=Ar Q k hu D;refine wk lo m p hk _ _ _ y q3 300 345 (s? (s? (s? ⟨rfl,rfl⟩))) w R W (λn d=>⟨gV n,by simp[kK,d]⟩) ?_;intro n p1 v w' d o t K L;obtain⟨s1,Y,ec,ca,cc,ga,gc⟩:=n;obtain⟨s2,F,z,f,J,H,G⟩:=p1;simp only at d o;subst d;subst o;have q:v=g? #[jJ (3-j),jN ga g gc]:=by simp[kK,gV]at t;exact t.symm
    have y:kK ⟨⟨3,j,[],0,⟨#[]⟩,0,0,[],3-j,g2⟩,F,z,f,J,H,G⟩=i? 300 (g? #[jJ (3-j),jN H g2 G]):=by simp[kK,gV]
    rw[q,y];have e3:p7 ⟨3,j,[],0,⟨#[]⟩,0,0,[],3-j,g⟩ ⟨3,j,[],0,⟨#[]⟩,0,0,[],3-j,g2⟩={kN 3 j with fine:=((3-(j:I),Hi.ku g g2):I×Hi.jX).1,g:=((3-(j:I),Hi.ku g g2):I×Hi.jX).2}:=by simp[p7,kN,e1]
    rw[e3];exact EW (3-j) ga g gc (3-j) H g2 G j (3-(j:I),Hi.ku g g2) hu D (Hi.zV (Hi.pS Q)) (Hi.zV (Hi.pS k)) e1 w' K.g L.g
structure ScL where
def cL:ScL:=⟨⟩
instance aY3:CoeOut ScL jD:=⟨λ_=>g? (xl 0 0).toArray⟩
def ZY(w:jC):jE Tryz.prog 57 #[jJ 1] w (wW w (nC 1)):=by
 go_in;go_wp2_with fail;refine kw (λ_=>True) (((Hold.nil w).alloc w 136 (xl 1 0)).alloc (w.heap.size+1) 136 (xl 1 0)) trivial (λV a _=>?_);have b:=fk (a.at_ 1);refine jF (v:=d? #[g? (xl 1 0).toArray,jJ 0]) (by simp[results,Tryz.results57,go_sem,b]) rfl ?_;exact⟨⟨nC 1,Z,0,Z,0,Z,0⟩,rfl,rfl,⟨Rd.none_,Rd.none_,Rd.none_⟩,⟨λ_ e=>LS,λ_ e=>LS,λ_ e=>LS⟩,a.below⟩
def ZW(w:jC):jE Tryz.prog 57 #[jJ 3] w (wW w (nC 3)):=by
 go_in;go_wp2_with fail;refine kw (λ_=>True) (((Hold.nil w).alloc w 136 [jJ 3,jJ 0,jM,jJ 0,aF,jJ 0,jJ 0,jM,jJ 3,jM]).alloc (w.heap.size+1) 136 [jJ 3,jJ 0,jM,jJ 0,aF,jJ 0,jJ 0,jM,jJ 3,jM]) trivial (λV a _=>?_);have b:=fk (a.at_ 1);refine jF (v:=d? #[g? #[jJ 3,jJ 0,jM,jJ 0,aF,jJ 0,jJ 0,jM,jJ 3,jM],jJ 0]) (by simp[results,Tryz.results57,go_sem,b]) rfl ?_;exact⟨⟨nC 3,Z,0,Z,0,Z,0⟩,rfl,rfl,⟨Rd.none_,Rd.none_,Rd.none_⟩,⟨λ_ e=>LS,λ_ e=>LS,λ_ e=>LS⟩,a.below⟩
def ZX(w:jC):jE Tryz.prog 57 #[jJ 2] w (wW w (nC 2)):=by
 have p:Hid (∀w',jE Tryz.prog 76 #[jJ 2,jJ 32] w' (Cm.BK w' (⟨2,32,de 64 0⟩,0))):=λw'=>by
  have:=Cm.new_any 2 32 w';rwa[show Cm.newF 2 32=(⟨2,32,de 64 0⟩,0) by rfl]at this
 go_in;go_wp2_with fail;refine kf (λ_=>True) (((Hold.nil w).alloc w 136 (xl 0 0)).alloc (w.heap.size+1) 136 (xl 2 0)) trivial (λV f _=>?_);refine(p V).mono ?_;rintro e y⟨h,v,rfl,b,c1,rfl,-,-,l,d⟩;have t:w.heap.size+1<V.heap.size:=(f.blk _ ab).2.lt;replace f:=ah (f.call h);clear h p;have x:=fk (f.facts);simp only[ey]at*;go_wp2_with fail;have n:=aS ((((f.put 0 5 (c? o? 2)).put 0 6 (c? o? 32)).put 0 7 (b? b 64 c1)).all 1 [jJ 2,jJ 0,jM,jJ 0,aF,jJ 2,jJ 32,b? b 64 c1,jJ 0,jM]);have a:∀g,g<=w.heap.size+1->∀c,b=M c->c.block≠g:=λg z c e=>by have:=(d c e).1;omega
 have j:=aS (xr (a w jS) [jJ 2,jJ 0,jM,jJ 0,aF,jJ 2,jJ 32,b? b 64 c1,jJ 0,jM] 0 (mi (o:=7) (u:=b? b 64 c1) (mi (o:=6) (u:=c? o? 32) (mi (o:=5) (u:=c? o? 2) l (a (w.heap.size+1) jS)) (a (w.heap.size+1) jS)) (a (w.heap.size+1) jS)));refine kw (λV=>Rd V V b _) n j (λs q m=>?_);have k:∀c,b=M c->w.heap.size<=c.block:=λc e=>by have:=(d c e).1;omega
 have r:=fk (q.at_ 1);clear x n j f d a;refine jF (v:=d? #[g? #[jJ 2,jJ 0,jM,jJ 0,aF,jJ 2,jJ 32,b? b 64 c1,jJ 0,jM],jJ 0]) (by simp[results,Tryz.results57,go_sem,r]) rfl ?_;exact⟨⟨nC 2,Z,0,b,c1,Z,0⟩,rfl,rfl,⟨Rd.none_,m,Rd.none_⟩,⟨λ_ e=>LS,k,λ_ e=>LS⟩,q.below⟩
def JX(k:I)(b:¬(1<=k/\k<=3))(w:jC):jE Tryz.prog 57 #[jJ k] w λe w'=>e=a? (d? #[cL,jJ 101])/\Below w w w':=by
 have g:(k==1)=u?:=J? jS;have d:(k==2)=u?:=J? jS;have f:(k==3)=u?:=J? jS;clear b;go_in;go_wp2_with fail;refine kw (λ_=>True) (((Hold.nil w).alloc w 136 (xl 0 0)).alloc (w.heap.size+1) 136 (xl k 0)) trivial (λV a _=>?_);have c:=fk (a.at_ 1);refine jF (v:=d? #[cL,jJ 101]) (by simp[results,Tryz.results57,go_sem,c]) rfl ?_;exact⟨rfl,a.below⟩
def AE(k:I)(a:1<=k/\k<=3)(w:jC):jE Tryz.prog 57 #[jJ k] w (wW w (nC k)):=by
 rcases(by omega:k=1\/k=2\/k=3)with rfl|rfl|rfl
 .exact ZY w
 .exact ZX w
 exact ZW w
def vC(m p:SkM)(C:GK m.s)(L:GK p.s)(X:m.s.kind=p.s.kind)(w:jC)(hE:Er w)(N:jY w w m)(R:jY w w p):jE Tryz.prog 78 #[nT m,nT p] w (wW w (mZ m.s p.s)):=by
 have QO:(lI 9 w m):=λw' h=>vu m C.right w' (N.later h) C.fit;have QP:(lI 9 w p):=λw' h=>vu p L.right w' (R.later h) L.fit;have Q:Hid (∀w',Below w w w'->jE Tryz.prog 110 #[jT m,jT p] w' (pJ w w' (mZ m.s p.s))):=λw' h=>Fs w m p C L X w' (hE.later h) (N.later h) (R.later h) N.inn R.inn h.size;have r:Hid (GK (mZ m.s p.s)):=(Ei C L X).1;obtain⟨T,v,W⟩:=kv m;obtain⟨Tp,vp,J⟩:=kv p;have KJ:jT m=g? #[i? T v,jJ m.s.kind,jJ m.s.level]:=by rw[jT,W]
 have Fh:jT p=g? #[i? Tp vp,jJ p.s.kind,jJ p.s.level]:=by rw[jT,J]
 rw[KJ]at QO Q;rw[Fh]at QP Q;clear N R hE C L X KJ Fh W J;go_in;unfold nT at*;go_wp2_with fail;refine kf (λ_=>True) ((((Hold.nil w).alloc w 136 (aA m)).alloc (w.heap.size+1) 136 (aA p)).alloc (aN w) 136 (xl 0 0)) trivial (λV y _=>?_);refine(QO V y.below).mono ?_;rintro e w1⟨rfl,G⟩;replace y:=ah (y.call G);clear G QO;have x:=fk (y.facts);have hz:w.heap.size+1+1<w1.heap.size:=x.1;go_wp2_with fail;refine kf (λ_=>True) (y.alloc w1 169 [i? T v,jJ m.s.kind,jJ m.s.level] rfl) trivial (λV2 t _=>?_);clear x y;generalize w1.heap.size=bx at*;refine(QP V2 t.below).mono ?_;rintro e w3⟨rfl,j⟩;have β:bx<w3.heap.size:=cn (t.blk _ (ac 0)).2.lt j.size;replace t:=ah (t.call j);clear j QP;have x:=fk (t.facts);go_wp2_with fail;refine kf (λ_=>True) (t.alloc w3 169 [i? Tp vp,jJ p.s.kind,jJ p.s.level] rfl) trivial (λV4 o _=>?_);clear x t;generalize w3.heap.size=bp at*;refine(Q V4 o.below).mono ?_;rintro e w5⟨c,n,rfl,f,d,K⟩;have δ:bp<V4.heap.size:=(o.blk _ (ac 0)).2.lt;replace o:=ah (o.call K);replace r:Hid (GK c.s):=by rw[n];exact r
 obtain⟨T2,Y,α⟩:=kv c;have ew:jT c=g? #[i? T2 Y,jJ c.s.kind,jJ c.s.level]:=by rw[jT,α]
 rw[ew];have Yx:=ah n;clear K Q n;have x:=fk (o.facts);go_wp2_with fail;have D:=aS (o.all 1 [i? T2 Y,jJ c.s.kind,jJ c.s.level]);have xM:=aS (jY.lp (g:=bx) (d.mono λb W=>jS) [i? T2 Y,jJ c.s.kind,jJ c.s.level] 0 f);refine kf (λV=>jY V V c) D xM (λV6 z rm=>?_);have QT:=ah (xg c r V6 rm);rw[ew]at QT;clear x D xM o f d ew;refine QT.mono ?_;rintro e w7⟨q,N1,rfl,uH,k,H⟩;have γ:w.heap.size+1+1<V6.heap.size:=by have:=(z.blk _ (ac 1)).2.lt;simp only at this;omega
 replace z:=ah (z.call H);have Fk:Hid (q.s=mZ m.s p.s):=N1.trans Yx;clear H QT N1;have x:=fk (z.facts);unfold nT;go_wp2_with fail;have D:=aS (z.all 2 (aA q));have A:lY (·≠w.heap.size+1+1) q:=k.inn.mono λb(W:V6.heap.size<=b)=>jS;have G6:=aS (jY.lp A (aA q) 0 uH);refine kw (λV=>jY V V q) D G6 (λV9 H9 nZ=>?_);have F:=k.mono (B':=w.heap.size) jS;have hq:=fk (H9.at_ 2);clear x D G6 A k z;refine jF (v:=d? #[g? (aB q),jJ 0]) (by simp[results,Tryz.results78,go_sem,hq]) rfl ?_;exact⟨q,Fk,rfl,nZ,F,H9.below⟩
end Go.Proofs.YtfcnedcahoifoaaGreatDoor
