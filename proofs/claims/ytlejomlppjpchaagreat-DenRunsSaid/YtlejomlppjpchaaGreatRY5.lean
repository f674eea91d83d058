/- Texts merged into one, for the number of files a claim may have: W, Mul, Repeat, Effects, Code, Walk, Next, Step, Arr, Check, ChkUse, Join, Del, RouteA, RouteB, Nd, CtM, ArrEq, EntEq, Parts, StepApp, PartsB, CapN. -/
import Derived.Test.YtlejomlppjpchaaGreatRY1
import Derived.BigQuiet
import Derived.Deep.AppendLies
import Derived.Deep.CutBlock
import Derived.Deep.DeepCutAuto
import Derived.Laws.CopyOwn
import Derived.Lib.Hide
import Derived.StillTailTactics
import Derived.Test.YtlejomlppjpchaaGreatRows
import Derived.WalkLawsBesides
import Derived.WalkSpells
import Derived.WideKeyEntry
import Derived.WideMake
namespace Go.Fb
open Go.RowKit
set_option maxRecDepth 100000
set_option maxHeartbeats 16000000
set_option linter.unusedVariables false
structure Fr (B:Nat) (L:List Nat) (w w':World):Prop where
 os:w'.os=w.os
 tape:w'.tape=w.tape
 output:w'.output=w.output
 size:w.heap.size<=w'.heap.size
 block:∀ k,k < B->k ∉ L->w'.heap[k]?=w.heap[k]?

theorem Fr.refl (B:Nat) (L:List Nat) (w:World):Fr B L w w:=⟨rfl,rfl,rfl,Nat.le_refl _,fun _ _ _=>rfl⟩
theorem Fr.trans {B:Nat} {L:List Nat} {a b c:World} (h:Fr B L a b) (k:Fr B L b c):Fr B L a c :=
 ⟨k.os.trans h.os,k.tape.trans h.tape,k.output.trans h.output,Nat.le_trans h.size k.size,fun i hi hn=>(k.block i hi hn).trans (h.block i hi hn)⟩
theorem Fr.mono {B B':Nat} {L L':List Nat} {w w':World} (h:Fr B L w w') (hB:B'<=B) (hL:∀ k,k ∈ L->k < B'->k ∈ L'):Fr B' L' w w' :=
 ⟨h.os,h.tape,h.output,h.size,fun k hk hn=>h.block k (Nat.lt_of_lt_of_le hk hB) (fun hm=>hn (hL k hm hk))⟩
theorem Fr.nx {a b c:World} {L:List Nat} (h:Fr a.heap.size [] a b) (k:Fr b.heap.size L b c) (hL:∀ q,q ∈ L->q < a.heap.size->q ∈ ([]:List Nat):=by simp):Fr a.heap.size [] a c:=h.trans (k.mono h.size hL)
theorem nm {α:Sort _} (a:α):∃ v,v=a:=⟨a,rfl⟩
theorem zh {p:Prop} (h:p):RowKit.Hid p:=h
theorem lPt {α:Type}:(∀ (l:List α) (i:Nat) (a:α),l.toArray.setIfInBounds i a=(l.set i a).toArray)/\(∀ (x a:α) (l:List α),(a :: l).set 0 x=x :: l)/\(∀ (x a:α) (l:List α) (i:Nat),(a :: l).set (i+1) x=a :: l.set i x):=⟨fun l i a=>by simp,fun _ _ _=>rfl,fun _ _ _ _=>rfl⟩
theorem Fr.drew {B:Nat} {L:List Nat} {a w:World} (h:Fr B L a w):Fr B L a w.drew:=⟨h.os,h.tape,h.output,h.size,h.block⟩
theorem Fr.drewN {B:Nat} {L:List Nat} {a w:World} (h:Fr B L a w) (n:Nat):Fr B L a (w.drewN n):=⟨h.os,h.tape,h.output,h.size,h.block⟩
theorem Fr.alloc {B:Nat} {L:List Nat} {a w:World} (h:Fr B L a w) (hB:B<=w.heap.size) (o:Obj):Fr B L a (w.alloc o) :=
 h.trans ⟨rfl,rfl,rfl,by simp,fun k hk _=>Below.heap_alloc _ _ _ (by omega)⟩
theorem Fr.setCell {B:Nat} {L:List Nat} {a w:World} (h:Fr B L a w) {p:Addr} (hp:B<=p.block \/ p.block ∈ L) (u:Value):Fr B L a (w.setCell p u) :=
 h.trans ⟨rfl, rfl, rfl, by simp [World.setCell], fun k hk hn => Below.heap_setCell _ _ _ _ (by
  rintro rfl
  rcases hp with hp | hp
  · omega
  · exact hn hp)⟩
theorem Fr.grown {B:Nat} {L:List Nat} {a w w':World} {row:Option Nat} (h:Fr B L a w) (hg:w.grownBy w' row) (hB:B<=w.heap.size) (hr:∀ k,row=some k->B<=k \/ k ∈ L):Fr B L a w' :=
 h.trans ⟨hg.os, hg.tape, hg.output, hg.size, fun k hk hn => hg.block k (by omega) (fun e => by
  rcases hr k e.symm with h | h
  · omega
  · exact hn h)⟩
theorem Fr.of_below {B:Nat} {L:List Nat} {w w':World} (h:Below B w w'):Fr B L w w':=⟨h.os,h.tape,h.output,h.size,fun k hk _=>h.block k hk⟩
theorem Fr.below {B:Nat} {w w':World} (h:Fr B [] w w'):Below B w w':=⟨h.os,h.tape,h.output,h.size,fun k hk=>h.block k hk (by simp)⟩
theorem Fr.cell {B:Nat} {L:List Nat} {w w':World} (h:Fr B L w w') {p:Addr} (hp:p.block < B) (hn:p.block ∉ L):w'.cell? p=w.cell? p:=World.cell?_of_block (w:=w) (h.block p.block hp hn)
theorem Fr.frozen {B:Nat} {L:List Nat} {w w':World} (h:Fr B L w w') {p:Addr} (hp:p.block < B) (hn:p.block ∉ L):w'.frozen? p=w.frozen? p:=World.frozen?_of_block (w:=w) (h.block p.block hp hn)

def Blk (w:World) (g:Nat) (t:TypeId) (cs:Array Value):Prop:=w.heap[g]?=some (.cells cs t (0,0))
section
variable {w w':World} {g:Nat} {t:TypeId} {cs:Array Value}
theorem Blk.lt (h:Blk w g t cs):g < w.heap.size:=by
 rcases Nat.lt_or_ge g w.heap.size with hlt | hge
 · exact hlt
 · unfold Blk at h;rw [Array.getElem?_eq_none hge] at h;cases h
theorem Blk.cell (h:Blk w g t cs) (i:Nat):w.cell? ⟨g,i,none⟩=cs[i]?:=cell_of_row w g i cs t (0,0) h
theorem Blk.frozen (h:Blk w g t cs) (i:Nat):w.frozen? ⟨g,i,none⟩=false:=by
 unfold Blk at h;simp [World.frozen?,h]
theorem Blk.new (w:World) (t:TypeId) (cs:Array Value):Blk (w.alloc (.cells cs t)) w.heap.size t cs:=heap_alloc_new w _
theorem Blk.drew (h:Blk w g t cs):Blk w.drew g t cs:=h
theorem Blk.drewN (h:Blk w g t cs) (n:Nat):Blk (w.drewN n) g t cs:=h
theorem Blk.alloc (h:Blk w g t cs) (o:Obj):Blk (w.alloc o) g t cs:=(Below.heap_alloc w o g h.lt).trans h
theorem Blk.set_ (h:Blk w g t cs) (i:Nat) (u:Value):Blk (w.setCell ⟨g,i,none⟩ u) g t (cs.setIfInBounds i u):=by
 unfold Blk at h ⊢;simp [World.setCell,Array.getElem?_modify,h]
theorem Blk.far (h:Blk w g t cs) {p:Addr} (hp:g ≠ p.block) (u:Value):Blk (w.setCell p u) g t cs:=(Below.heap_setCell w p u g hp).trans h
theorem Blk.fr {B:Nat} {L:List Nat} (h:Blk w g t cs) (hb:Fr B L w w') (hg:g < B) (hn:g ∉ L):Blk w' g t cs:=(hb.block g hg hn).trans h
theorem Blk.grown {row:Option Nat} (h:Blk w g t cs) (hb:w.grownBy w' row) (hg:some g ≠ row):Blk w' g t cs:=(hb.block g h.lt hg).trans h
end

theorem ownsRow_fr {w w':World} {base e size n:Nat} {v:Value} {xs:List Value} {B:Nat} {L:List Nat} (h:w.ownsRow base e size v n xs) (hb:Fr B L w w') (hv:∀ k,v.ownBlock=some k->k < B/\k ∉ L):w'.ownsRow base e size v n xs:=by
 refine ⟨h.1,?_⟩
 rcases h.2 with hn | ⟨g,cap,cur,rfl,hbg,hgg,rest⟩
 · exact .inl hn
 · obtain ⟨h1,h2⟩:=hv g rfl;exact .inr ⟨g,cap,cur,rfl,hbg,(hb.block g h1 h2).trans hgg,rest⟩
theorem ownsRow_base {w:World} {base base' e size n:Nat} {v:Value} {xs:List Value} (h:w.ownsRow base e size v n xs) (hb:base'<=base):w.ownsRow base' e size v n xs:=by
 refine ⟨h.1,?_⟩
 rcases h.2 with hn | ⟨g,cap,cur,rfl,hbg,hgg,rest⟩
 · exact .inl hn
 · exact .inr ⟨g,cap,cur,rfl,by omega,hgg,rest⟩
theorem ownsRow_shape {w:World} {base e size n:Nat} {v:Value} {xs:List Value} (h:w.ownsRow base e size v n xs) :
  ∃ A c,v=.slice A n c/\(∀ ad,A=some ad->ad.off=0/\ad.spot=none/\base<=ad.block/\ad.block < w.heap.size)/\n<=c/\(A=none->n=0):=by
 rcases h.2 with ⟨rfl,rfl⟩ | ⟨g,cap,cur,rfl,hbg,hgg,hnc,_⟩
 · exact ⟨none,0,rfl,by simp,Nat.le_refl _,fun _=>rfl⟩
 ·
  refine ⟨some ⟨g,0,none⟩,cap,rfl,?_,hnc,by simp⟩;rintro ad hA;injection hA with hA
  subst hA;exact ⟨rfl,rfl,hbg,(Array.getElem?_eq_some_iff.1 hgg).1⟩

theorem block_of_add (a:Addr) (n:Nat):(a.add n).block=a.block:=by unfold Addr.add;split <;> rfl
def Reads (w:World) (B size:Nat) (A:Option Addr) (n:Nat) (xs:List Value):Prop :=
 xs.length=n * size/\(0 < n->∃ b off,A=some ⟨b,off,none⟩/\b < B /\ ∀ j u,xs[j]?=some u->w.cell? ⟨b,off+j,none⟩=some u)
section
variable {w w':World} {B B' size n:Nat} {A:Option Addr} {xs:List Value}
theorem Reads.none_:Reads w B size A 0 []:=⟨by simp,fun h=>absurd h (by omega)⟩
theorem Reads.keep (h:Reads w B size A n xs) (hk:∀ p:Addr,p.block < B->w'.cell? p=w.cell? p):Reads w' B size A n xs :=
 ⟨h.1, fun hn => by
  obtain ⟨b,off,e,hb,hc⟩:=h.2 hn
  exact ⟨b,off,e,hb,fun j u hu=>(hk _ hb).trans (hc j u hu)⟩⟩
theorem Reads.more (h:Reads w B size A n xs) (hB:B<=B'):Reads w B' size A n xs :=
 ⟨h.1, fun hn => by
  obtain ⟨b,off,e,hb,hc⟩:=h.2 hn
  exact ⟨b,off,e,by omega,hc⟩⟩
theorem Reads.fr {L:List Nat} (h:Reads w B size A n xs) (hb:Fr B' L w w') (hB:B<=B') (hL:∀ k ∈ L,B<=k):Reads w' B size A n xs :=
 h.keep fun p hp=>hb.cell (by omega) (fun hm=>by have:=hL _ hm;omega)
theorem Reads.frL {L:List Nat} (h:Reads w B size A n xs) (hb:Fr B' L w w') (hB:B<=B') (hL:0 < n -> ∀ ad,A=some ad->ad.block ∉ L):Reads w' B size A n xs :=
 ⟨h.1, fun hn => by
  obtain ⟨b,off,e,hb',hc⟩:=h.2 hn
  exact ⟨b,off,e,hb',fun j u hu=>(hb.cell (p:=⟨b,off+j,none⟩) (Nat.lt_of_lt_of_le hb' hB) (hL hn ⟨b,off,none⟩ e)).trans (hc j u hu)⟩⟩
theorem Reads.apart (h:Reads w B size A n xs) {g:Nat} (hg:B<=g):0 < n -> ∀ ad,A=some ad->ad.block ≠ g:=by
 rintro hn ad rfl;obtain ⟨b,off,e,hb,_⟩:=h.2 hn;injection e with e
 subst e
 show b ≠ g
 omega
theorem Reads.one {k:Nat} (h:Reads w B 1 A n xs) (hk:k < n):∃ b off u,A=some ⟨b,off,none⟩/\b < B/\xs[k]?=some u/\w.cell? ⟨b,off+k,none⟩=some u:=by
 obtain ⟨b,off,e,hb,hc⟩:=h.2 (by omega);have hl:k < xs.length:=(by have:=h.1;omega);exact ⟨b,off,xs[k],e,hb,List.getElem?_eq_getElem hl,hc k _ (List.getElem?_eq_getElem hl)⟩
theorem Reads.of_own {base:Nat} {e:TypeId} {c:Nat} (h:w.ownsRow base e size (.slice A n c) n xs):Reads w w.heap.size size A n xs:=by
 refine ⟨h.1,fun hn => ?_⟩;obtain ⟨g,cap,hv,_,hlt⟩:=h.form hn;have hA:A=some ⟨g,0,none⟩:=(by injection hv);subst hA;refine ⟨g,0,rfl,hlt,fun j u hu => ?_⟩;have:=h.cells (g:=g) rfl j u hu;unfold Addr.add at this
 split at this
 · rename_i h0;simpa [h0] using this
 · simpa using this
theorem Reads.of_blk {g:Nat} {t:TypeId} {cs:Array Value} {m:Nat} (h:Blk w g t cs) (hm:cs.size=m * size):Reads w (g+1) size (some ⟨g,0,none⟩) m cs.toList :=
 ⟨by simpa using hm,fun _=>⟨g,0,rfl,by omega,fun j u hu=>by rw [h.cell];simpa using hu⟩⟩
end

structure SliceTy (P:Program) (t e size bytes:Nat):Prop where
 ht:P.underlying t=some (.slice e)
 hi:∃ i z,P.info? e=some i/\i.zero=some z/\i.size=size/\i.bytes=bytes/\z.cells.size=size
 pos:0 < size
theorem SliceTy.mk' {P:Program} {t e size bytes:Nat} {z:Value} (ht:P.underlying t=some (.slice e)) (h:(P.info? e).map (fun i=>(i.zero,i.size,i.bytes))=some (some z,size,bytes)) (hz:z.cells.size=size) (hs:0 < size):SliceTy P t e size bytes:=by
 obtain ⟨i,h1,h2,h3,h4⟩:=info_parts h;exact ⟨ht,⟨i,z,h1,h2,h3,h4,hz⟩,hs⟩

section
variable {P:Program} (w:World)
theorem run_append_of_nil (base:Nat) (t ty e:TypeId) (i:TypeInfo) (size:Nat) (ht:P.underlying t=some (.slice e)) (hi:P.info? e=some i)
  (v:Value) (n:Nat) (xs:List Value) (hown:w.ownsRow base e size v n xs) (c:Nat):(Builtin.append_ #[t,t] ty #[v,.slice none 0 c]).run P w=.ok v w:=by
 rcases hown.2 with ⟨rfl,rfl⟩ | ⟨g,cap,cur,rfl,_,_,hnc,_⟩
 · simp [Builtin.append_,run_underlying ht,sizeOf,typeInfo,hi,Builtin.lenOf,Builtin.firstCells]
 · simp [Builtin.append_,run_underlying ht,sizeOf,typeInfo,hi,Builtin.lenOf,Builtin.firstCells,hnc,storeCells]

theorem run_app {t e size bytes:Nat} (T:SliceTy P t e size bytes) (ty:TypeId) (base:Nat) (v:Value) (n:Nat) (xs:List Value) (hown:w.ownsRow base e size v n xs)
  (B:Nat) (A:Option Addr) (m c:Nat) (news:List Value) (hr:Reads w B size A m news) (h1:∀ u ∈ news,u.oneCell'=true)
  (h63:n+m<=1073741824) (hb:bytes<=131072) (hbase:base<=w.heap.size) :
  ∃ A' c' w',(Builtin.append_ #[t,t] ty #[v,.slice A m c]).run P w=.ok (.slice A' (n+m) c') w'/\w'.ownsRow base e size (.slice A' (n+m) c') (n+m) (xs ++ news)/\w.grownBy w' v.ownBlock /\
   (Value.ownBlock (.slice A' (n+m) c')=v.ownBlock \/ Value.ownBlock (.slice A' (n+m) c')=some w.heap.size):=by
 obtain ⟨i,z,hi,hz,hsize,hby,hzs⟩:=T.hi;have hml:n+m<=maxLen:=(by unfold maxLen;omega);have hbytes:(n+m) * bytes<=140737488355328:=Nat.le_trans (Nat.mul_le_mul h63 hb) (by decide)
 have hcells:∀ ad,A=some ad -> ∀ j u,news[j]?=some u->w.cell? (ad.add j)=some u:=by
  rintro ad rfl j u hu
  rcases Nat.eq_zero_or_pos m with h0 | h0
  · subst h0;have hn:news=[]:=List.eq_nil_of_length_eq_zero (by simpa using hr.1);subst hn;simp at hu
  ·
   obtain ⟨b,off,h,_,hc⟩:=hr.2 h0;injection h with h
   subst h;have:(⟨b,off,none⟩:Addr).add j=⟨b,off+j,none⟩:=by unfold Addr.add;split <;> simp_all
   rw [this];exact hc j u hu
 have key:∃ v' w',(Builtin.append_ #[t,t] ty #[v,.slice A m c]).run P w=.ok v' w'/\w'.ownsRow base e size v' (n+m) (xs ++ news)/\w.grownBy w' v.ownBlock/\(v'.ownBlock=v.ownBlock \/ v'.ownBlock=some w.heap.size):=by
  rcases A with _ | ad
  ·
   have hm:m=0:=by
    rcases Nat.eq_zero_or_pos m with h0 | h0
    · exact h0
    ·
     obtain ⟨b,off,h,_⟩:=hr.2 h0
     cases h
   subst hm;have hn:news=[]:=List.eq_nil_of_length_eq_zero (by simpa using hr.1);subst hn;exact ⟨v,w,run_append_of_nil w base t ty e i size T.ht hi v n xs hown c,by simpa using hown,⟨rfl,rfl,rfl,Nat.le_refl _,fun _ _ _=>rfl⟩,.inl rfl⟩
  · obtain ⟨v',w',hrun,h2,h3,_,h5⟩:=run_append_own_at (P:=P) w base t ty e i z size bytes T.ht hi hz hsize hby hzs T.pos v n xs hown ad m c news hr.1 (hcells ad rfl) h1 hml hbytes hbase;exact ⟨v',w',hrun,h2,h3,h5⟩
 obtain ⟨v',w',hrun,h2,h3,h4⟩:=key;obtain ⟨A',c',rfl,_⟩:=ownsRow_shape h2;exact ⟨A',c',w',hrun,h2,h3,h4⟩

theorem wp_app {o:Oper} {a:Act} {K:Act->World->Prop} {Q:Exit->Act->World->Prop} (s x:Operand) {t e size bytes:Nat} (T:SliceTy P t e size bytes)
  (ho:o.op=.call { callee:=.builtin .append,args:=#[s,x],argTypes:=#[t,t] })
  (base:Nat) (v:Value) (n:Nat) (xs:List Value) (hs:a.eval s=v) (hown:w.ownsRow base e size v n xs)
  (B:Nat) (A:Option Addr) (m c:Nat) (news:List Value) (hx:a.eval x=.slice A m c) (hr:Reads w B size A m news) (h1:∀ u ∈ news,u.oneCell'=true)
  (h63:n+m<=1073741824) (hb:bytes<=131072) (hbase:base<=w.heap.size)
  (h : ∀ A' c' w', w'.ownsRow base e size (.slice A' (n + m) c') (n + m) (xs ++ news) -> w.grownBy w' v.ownBlock ->
   (Value.ownBlock (.slice A' (n+m) c')=v.ownBlock \/ Value.ownBlock (.slice A' (n+m) c')=some w.heap.size)->K (a.put o.dst (.slice A' (n+m) c')) w'):o.wp P a w K Q:=by
 obtain ⟨A',c',w',hrun,h2,h3,h4⟩:=run_app (P:=P) w T o.type base v n xs hown B A m c news hr h1 h63 hb hbase;unfold Oper.wp execOp;simp only [ho,resolve,invoke,builtin,Sem.run_bind,Sem.run_pure,Result.andThen_ok,List.map_toArray,List.map_cons,List.map_nil,hs,hx,hrun];exact h A' c' w' h2 h3 h4

theorem wpList_app {ops:Array Oper} {rest:List Oper} {o:Oper} {a:Act} {Q:Exit->Act->World->Prop} (hgd:o.guard=none) (s x:Operand) {t e size bytes:Nat} (T:SliceTy P t e size bytes)
  (ho:o.op=.call { callee:=.builtin .append,args:=#[s,x],argTypes:=#[t,t] })
  (base:Nat) (v:Value) (n:Nat) (xs:List Value) (hs:a.eval s=v) (hown:w.ownsRow base e size v n xs)
  (B:Nat) (A:Option Addr) (m c:Nat) (news:List Value) (hx:a.eval x=.slice A m c) (hr:Reads w B size A m news) (h1:∀ u ∈ news,u.oneCell'=true)
  (h63:n+m<=1073741824) (hb:bytes<=131072) (hbase:base<=w.heap.size)
  (h : ∀ A' c' w', w'.ownsRow base e size (.slice A' (n + m) c') (n + m) (xs ++ news) -> w.grownBy w' v.ownBlock ->
   (Value.ownBlock (.slice A' (n+m) c')=v.ownBlock \/ Value.ownBlock (.slice A' (n+m) c')=some w.heap.size)->wpList P ops Q rest (a.put o.dst (.slice A' (n+m) c')) w'):wpList P ops Q (o :: rest) a w :=
 wpList_plain hgd fun _ hK=>wp_app w s x T ho base v n xs hs hown B A m c news hx hr h1 h63 hb hbase fun A' c' w' h2 h3 h4=>hK _ _ (h A' c' w' h2 h3 h4)
end

theorem wpList_app_lit {P:Program} (w:World) {ops:Array Oper} {rest:List Oper} {o:Oper} {a:Act} {Q:Exit->Act->World->Prop} (hgd:o.guard=none) (s x:Operand) {t e size bytes:Nat} (T:SliceTy P t e size bytes)
  (ho:o.op=.call { callee:=.builtin .append,args:=#[s,x],argTypes:=#[t,t] })
  (base:Nat) (v:Value) (n:Nat) (xs:List Value) (hs:a.eval s=v) (hown:w.ownsRow base e size v n xs)
  (m c:Nat) (news:Array Value) (hx:a.eval x=.slice (some ⟨w.heap.size,0,none⟩) m c) (hm:news.size=m * size) (h1:∀ u ∈ news.toList,u.oneCell'=true)
  (h63:n+m<=1073741824) (hb:bytes<=131072) (hbase:base<=w.heap.size)
  (h : ∀ A' c' w', w'.ownsRow base e size (.slice A' (n + m) c') (n + m) (xs ++ news.toList) -> (w.alloc (.cells news e)).grownBy w' v.ownBlock ->
   (Value.ownBlock (.slice A' (n+m) c')=v.ownBlock \/ Value.ownBlock (.slice A' (n+m) c')=some (w.heap.size+1))->wpList P ops Q rest (a.put o.dst (.slice A' (n+m) c')) w'):wpList P ops Q (o :: rest) a (w.alloc (.cells news e)) :=
 wpList_app _ hgd s x T ho base v n xs hs (hown.alloc _) (w.heap.size+1) _ m c news.toList hx (Reads.of_blk (Blk.new w e news) hm) h1 h63 hb (by simp;omega) (fun A' c' w' h2 h3 h4=>h A' c' w' h2 h3 (by simpa using h4))

theorem ownsRow_setCell_other {w:World} {base e size n:Nat} {v:Value} {xs:List Value} (h:w.ownsRow base e size v n xs) {p:Addr} (hp:v.ownBlock ≠ some p.block) (u:Value):(w.setCell p u).ownsRow base e size v n xs:=by
 refine ⟨h.1,?_⟩
 rcases h.2 with hn | ⟨g,cap,cur,rfl,hbg,hgg,rest⟩
 · exact .inl hn
 · exact .inr ⟨g,cap,cur,rfl,hbg,(Below.heap_setCell w p u g (fun e=>hp (by simp [Value.ownBlock,e]))).trans hgg,rest⟩
theorem Blk.ne_own {w:World} {g t:Nat} {cs:Array Value} {base e size n:Nat} {v:Value} {xs:List Value} (hb:Blk w g t cs) (h:w.ownsRow base e size v n xs) (hne:e ≠ t):some g ≠ v.ownBlock:=by
 intro he
 rcases h.2 with ⟨rfl,_⟩ | ⟨g',cap,cur,rfl,_,hgg,_⟩
 · cases he
 ·
  have he':g=g':=by simpa [Value.ownBlock] using he
  subst he';unfold Blk at hb;rw [hgg] at hb;injection hb with hb
  injection hb with _ ht
  exact hne ht
def bl (s:ByteArray):List Int:=s.data.toList.map fun b=>(b.toNat:Int)
theorem Fr.of_app {w w':World} {o:Obj} {base:Nat} {v:Value} {e size n:Nat} {xs:List Value} (hg:(w.alloc o).grownBy w' v.ownBlock) (hown:w.ownsRow base e size v n xs) (hbase:base<=w.heap.size):Fr base [] w w' :=
 (((Fr.refl base [] w).alloc hbase o).grown hg (by simp;omega) (fun k hk=>.inl (hown.lt k hk).1))
end Go.Fb
namespace Go.Proofs.YtlejomlppjpchaaGreat
open Go.RowKit Go.Fb
set_option maxRecDepth 100000
set_option maxHeartbeats 16000000
set_option linter.unusedVariables false
theorem mul64_any (n:Nat) (hn:n<=24) (w:World):Calls Tryz.prog 255 #[.int .u64 1,.int .u64 n] w fun e w'=>e=.returned (.tuple #[.int .u64 0,.int .u64 n])/\w=w':=by
 have h:n=0 \/ n=1 \/ n=2 \/ n=3 \/ n=4 \/ n=5 \/ n=6 \/ n=7 \/ n=8 \/ n=9 \/ n=10 \/ n=11 \/ n=12 \/ n=13 \/ n=14 \/ n=15 \/ n=16 \/ n=17 \/ n=18 \/ n=19 \/ n=20 \/ n=21 \/ n=22 \/ n=23 \/ n=24:=(by omega)
 rcases h with rfl | rfl | rfl | rfl | rfl | rfl | rfl | rfl | rfl | rfl | rfl | rfl | rfl | rfl | rfl | rfl | rfl | rfl | rfl | rfl | rfl | rfl | rfl | rfl | rfl
 all_goals
  go_enter Tryz.func255,Tryz.ntmps255;go_wp2_with fail;go_ret2;exact ⟨rfl,rfl⟩
theorem mul_any (n:Nat) (hn:n<=24) (w:World):Calls Tryz.prog 244 #[.int .u64 1,.int .u64 n] w fun e w'=>e=.returned (.tuple #[.int .u64 0,.int .u64 n])/\w=w':=by
 have H:=zh (mul64_any n hn);go_enter Tryz.func244,Tryz.ntmps244;go_wp2_with fail;refine (H.out _).mono ?_;rintro e w' ⟨rfl,rfl⟩;go_wp2_with fail;go_ret2;exact ⟨rfl,rfl⟩
def intsA (n:Nat) (D:Nat->Int):Array Value:=((List.range n).map fun k=>Value.int .i64 (D k)).toArray
theorem intsA_get {n k:Nat} (D:Nat->Int) (h:k < n):(intsA n D)[k]?=some (.int .i64 (D k)):=by simp [intsA,h]
theorem intsA_size (n:Nat) (D:Nat->Int):(intsA n D).size=n:=by simp [intsA]
theorem intsA_set {n k:Nat} (D:Nat->Int) (u:Int):(intsA n D).setIfInBounds k (.int .i64 u)=intsA n (fun j=>if j=k then u else D j):=by
 apply Array.ext_getElem?;intro i;rw [Array.getElem?_setIfInBounds]
 by_cases hi:i < n
 ·
  by_cases e:k=i
  · subst e;simp [intsA,hi]
  · have e':¬ i=k:=fun h=>e h.symm;simp [intsA,hi,e,e']
 ·
  by_cases e:k=i
  · subst e;simp [intsA,hi]
  · simp [intsA,hi,e]
theorem intsA_congr {n:Nat} {D D':Nat->Int} (h:∀ k,k < n->D k=D' k):intsA n D=intsA n D':=by
 unfold intsA
 congr 1
 apply List.map_congr_left;intro k hk;rw [h k (by simpa using hk)]
def repD (v:Int) (m:Nat) (k:Nat):Int:=if k < m then v else 0
theorem rep_copy (v:Int) (n m c:Nat) (h:m+c<=n) :
  ((intsA n (repD v m)).toList.take m ++ (List.replicate c (Value.int .i64 v) ++ (intsA n (repD v m)).toList.drop (m+(List.replicate c (Value.int .i64 v)).length))).toArray=intsA n (repD v (m+c)):=by
 apply Array.ext_getElem?;intro i;rw [List.length_replicate];simp only [intsA,List.getElem?_toArray,List.getElem?_append,List.length_take,List.length_map,List.length_range,List.length_replicate,List.getElem?_take,List.getElem?_map,List.getElem?_drop]
 by_cases h1:i < m
 · rw [if_pos (by omega),if_pos h1];simp [show i < n by omega,repD,h1,show i < m+c by omega]
 ·
  rw [if_neg (by omega)]
  by_cases h2:i < m+c
  · rw [if_pos (by omega)];simp [show i - min m n < c by omega,show i < n by omega,repD,h2]
  ·
   rw [if_neg (by omega),show m+c+(i - min m n - c)=i by omega]
   by_cases h3:i < n
   · simp [h3,repD,h1,h2]
   · simp [h3]
theorem make_intsA (n:Nat) (h:n<=64) (W:World):(Instr.makeSlice 43 (.int .i64 (n:Int)) (.int .i64 (n:Int))).run Tryz.prog W=.ok (.slice (some ⟨W.heap.size,0,none⟩) n n) (W.alloc (.cells (intsA n (fun _=>0)) 3)):=by
 have info:(Tryz.prog.info? 3).map (fun i=>(i.zero,i.size,i.bytes))=some (some (Value.int .i64 0),1,8):=(by kernel_rfl);obtain ⟨i,hi,hz,hsz,hby⟩:=info_parts info;have hr:=run_make (P:=Tryz.prog) W 43 3 i (.int .i64 0) Tryz.underlying43 hi hz .i64 .i64 n n (by omega) (by omega) (by rw [hby];omega) (by omega);simp only [Int.toNat_natCast] at hr
 have hmc:madeCells (Value.int .i64 0).cells (n * i.size)=intsA n (fun _=>0):=by
  rw [hsz,Nat.mul_one];apply Array.ext
  · simp [size_madeCells,intsA]
  · intro j h1 h2;simp [madeCells,Value.cells,Nat.mod_one,intsA]
 rw [hmc] at hr;exact hr
theorem rep_run (v:Int) (W:World) (g n m c dLen dCap sLen sCap:Nat) (ad:Addr) (hb:Blk W g 3 (intsA n (repD v m))) (hc:c=Nat.min sLen dLen) (hfit:m+c<=n) (hsrc:∀ j,j < c->W.cell? (ad.add j)=some (.int .i64 v)) :
  (Builtin.copy_ #[43,43] 3 #[.slice (some ⟨g,m,none⟩) dLen dCap,.slice (some ad) sLen sCap]).run Tryz.prog W=.ok (.int .i64 c) (W.setRow g (intsA n (repD v (m+c)))):=by
 have h := run_copy_row (P := Tryz.prog) W 43 43 3 3 g m dLen dCap ad sLen sCap (intsA n (repD v m)) 3 (List.replicate c (.int .i64 v)) Tryz.underlying43 (by kernel_rfl) hb (by simpa using hc) (fun j u hu => by
  have hj:j < c:=by
   rcases Nat.lt_or_ge j c with h | h
   · exact h
   · rw [List.getElem?_eq_none (by simpa using h)] at hu;cases hu
  rw [List.getElem?_replicate_of_lt hj] at hu;injection hu with hu
  rw [<- hu]
  exact hsrc j hj) (by rw [intsA_size,List.length_replicate];exact hfit) (by simp [Value.oneCell'])
 rw [List.append_assoc,rep_copy v n m c hfit,List.length_replicate] at h;exact h
def RepOut (v:Int) (n:Nat) (w:World) (e:Ending) (w':World):Prop :=
 e=.returned (.slice (some ⟨w.heap.size,0,none⟩) n n)/\Blk w' w.heap.size 3 (intsA n fun _=>v)/\Fr w.heap.size [] w w'
theorem repeat_zero (v:Int) (b:Nat) (w:World) :
  Calls Tryz.prog 234 #[.slice (some ⟨b,0,none⟩) 1 1,.int .i64 0] w (RepOut v 0 w):=by
 have HM:=zh (mul_any 0 (by omega));have hmk:∀ W:World,(Instr.makeSlice 43 (.int .i64 0) (.int .i64 0)).run Tryz.prog W=.ok (.slice (some ⟨W.heap.size,0,none⟩) 0 0) (W.alloc (.cells (intsA 0 (fun _=>0)) 3)):=fun W=>make_intsA 0 (by omega) W
 have hrun:(Builtin.copy_ #[43,43] 3 #[.slice (some ⟨w.heap.size,0,none⟩) 0 0,.slice (some ⟨b,0,none⟩) 1 1]).run Tryz.prog (w.alloc (.cells (intsA 0 fun _=>0) 3))=.ok (.int .i64 0) (w.alloc (.cells (intsA 0 fun _=>0) 3)) :=
  run_copy_none (P:=Tryz.prog) _ 43 43 3 3 _ _ 0 0 1 1 Tryz.underlying43 (by kernel_rfl) rfl
 go_enter Tryz.func234,Tryz.ntmps234;go_wp2_with fail;refine (HM.out _).mono ?_;rintro e w' ⟨rfl,rfl⟩;go_wp2_with fail;go_loop [8] (fun i=>i=.int .i64 0) (fun _=>0)
 case atStart=>rfl
 case round =>
  subst hrel;go_wp2_with fail;go_ret;exact ⟨rfl,Blk.new _ _ _,(Fr.refl _ _ _).alloc (Nat.le_refl _) _⟩
theorem repeat_any (v:Int) (n b:Nat) (hn:n<=24) (w:World) (hb:b < w.heap.size) (hc:w.cell? ⟨b,0,none⟩=some (.int .i64 v)) :
    Calls Tryz.prog 234 #[.slice (some ⟨b,0,none⟩) 1 1,.int .i64 n] w (RepOut v n w):=by
  by_cases h0:n=0
  · subst h0;exact repeat_zero v b w
  have HM:=zh (mul_any n hn);have hmk:=fun W=>make_intsA n (by omega) W;have hd:decide ((n:Int) < 0)=false:=decide_eq_false (by omega);go_enter Tryz.func234,Tryz.ntmps234;go_wp2_with fail;refine (HM.out _).mono ?_;rintro e w' ⟨rfl,rfl⟩;go_upto_region 7 with fail
  · have h1:(1:Int)<=n:=by omega
    have B1:=Blk.new w 3 (intsA n (fun _=>0))
    have hrun:(Builtin.copy_ #[43,43] 3 #[.slice (some ⟨w.heap.size,0,none⟩) n n,.slice (some ⟨b,0,none⟩) 1 1]).run Tryz.prog (w.alloc (.cells (intsA n fun _=>0) 3))=.ok (.int .i64 1) ((w.alloc (.cells (intsA n fun _=>0) 3)).setRow w.heap.size (intsA n (repD v 1))):=by
      have h := rep_run v (w.alloc (.cells (intsA n fun _ => 0) 3)) w.heap.size n 0 1 n n 1 1 ⟨b, 0, none⟩ B1 (Nat.min_eq_left (by omega)).symm (by omega) (fun j hj => by
        obtain rfl:j=0:=by omega
        show (w.alloc _).cell? ⟨b,0,none⟩=_
        rw [<- hc]
        exact World.cell?_of_block (Below.heap_alloc _ _ _ hb))
      exact h
    have B2:Hid (Blk ((w.alloc (.cells (intsA n fun _=>0) 3)).setRow w.heap.size (intsA n (repD v 1))) w.heap.size 3 (intsA n (repD v 1))):=setRow_heap _ _ _ _ _ _ B1;have F2:Hid (Below w.heap.size w ((w.alloc (.cells (intsA n fun _=>0) 3)).setRow w.heap.size (intsA n (repD v 1)))):=below_setRow ((Below.refl _ _).alloc (Nat.le_refl _) _) (Nat.le_refl _) _;clear B1;go_wp2_with fail;generalize (w.alloc _).setRow _ _=w2 at *;clear hrun;go_loopw [8] (fun i wr=>∃ m:Nat,1<=m/\m<=n/\i=.int .i64 m/\Hid (Blk wr w.heap.size 3 (intsA n (repD v m)))/\Hid (Below w.heap.size w wr)) (fun i _=>n - (intOf i).toNat)
    case atStart=>exact ⟨1,Nat.le_refl _,by omega,rfl,B2,F2⟩
    case round =>
      clear B2 F2;obtain ⟨m,hm1,hmn,rfl,BR,FR⟩:=hrel
      by_cases hlt:m < n
      · have hmi:(m:Int) < (n:Int):=by omega
        obtain ⟨c,hcv⟩:=nm (Nat.min m (n - m));have hc1:1<=c:=(by rw [hcv];show 1<=min m (n - m);omega);have hc2:m+c<=n:=(by rw [hcv];show m+min m (n - m)<=n;omega);have HCV:=zh hcv;clear hcv;have hw1:IntKind.i64.wrap ((m:Int)+c)=((m+c:Nat):Int):=(by rw [IntKind.wrap_i64];omega);have hnm:¬ n=m:=(by omega)
        have hrun2 := rep_run v wr.drew w.heap.size n m c (n - m) (n - m) m n ⟨w.heap.size, 0, none⟩ BR.out.drew (by rw [HCV.out]) hc2 (fun j hj => by
          have hj2 : j < m := by have := HCV.out; have h3 : c <= m := by rw [this]; exact Nat.min_le_left _ _
                                 omega
          have e:(⟨w.heap.size,0,none⟩:Addr).add j=⟨w.heap.size,j,none⟩:=by unfold Addr.add;split <;> simp_all
          rw [e,BR.out.drew.cell j,intsA_get _ (by omega)]
          simp [repD,hj2])
        have B2:Hid (Blk (wr.drew.setRow w.heap.size (intsA n (repD v (m+c)))) w.heap.size 3 (intsA n (repD v (m+c)))):=setRow_heap _ _ _ _ _ _ BR.out.drew;have F2:Hid (Below w.heap.size w (wr.drew.setRow w.heap.size (intsA n (repD v (m+c))))):=below_setRow FR.out.drew (Nat.le_refl _) _;clear BR FR;generalize hw3:wr.drew.setRow w.heap.size (intsA n (repD v (m+c)))=w3 at *;clear hw3;go_upto_region 9 with fail;go_region
        all_goals
          go_wp2_with fail;go_roundw
          case rel=>exact ⟨m+c,by omega,by omega,by go_num,B2.out,F2.out⟩
          case measure=>simp [intOf];omega
      · obtain rfl:n=m:=by omega
        go_wp2_with fail;go_ret;exact ⟨rfl,(by rw [<- intsA_congr (D:=repD v n) (fun k hk=>by unfold repD;rw [if_pos hk])];exact BR.out),Fr.of_below FR.out⟩
def effL:List (Int × Int × Int):=[(1,0,1),(2,0,1),(3,0,1),(4,0,1),(5,1,0),(13,1,0),(14,1,0),(15,1,0),(6,2,1),(7,2,1),(8,2,1),(17,2,1),(9,1,1),(10,1,1),(11,1,2),(12,2,2)]
def entOf (i:Nat) (x:Int × Int × Int):MapEntry:={ key:=.int .i64 x.1,val:=.agg #[.int .i64 x.2.1,.int .i64 x.2.2],born:=i }
def effA:Nat->Array MapEntry
 | 0 => #[]
 | i+1=>(effA i).push (entOf i (effL.getD i (0,0,0)))
theorem alloc_over (w:World) (o o':Obj):({ w.alloc o with heap:=(w.alloc o).heap.setIfInBounds w.heap.size o' }:World)=w.alloc o':=by
 have h:(w.heap.push o).setIfInBounds w.heap.size o'=w.heap.push o':=by
  apply Array.ext_getElem?;intro i;rw [Array.getElem?_setIfInBounds,Array.getElem?_push,Array.getElem?_push]
  by_cases e:w.heap.size=i
  · subst e;simp
  · have e':¬ i=w.heap.size:=fun h=>e h.symm;simp [e,e']
 show ({ w with heap:=(w.heap.push o).setIfInBounds w.heap.size o' }:World)={ w with heap:=w.heap.push o' }
 rw [h]
theorem eff_ins (w:World) (i:Nat) (x t l:Int) (hx:effL.getD i (0,0,0)=(x,t,l)) (hf:Instr.findNow (.int .i64) (.int .i64 x) (effA i).toList 0=some none) :
  (Instr.mapUpdate 364 (.map (some w.heap.size)) (.int .i64 x) (.agg #[.int .i64 t,.int .i64 l])).run Tryz.prog (w.alloc (.map (effA i) i))=.ok () (w.alloc (.map (effA (i+1)) (i+1))):=by
 have hb:(w.alloc (.map (effA i) i)).heap[w.heap.size]?=some (.map (effA i) i):=heap_alloc_new w _
 have hc:(Instr.checkKey false 10000 3 (.int .i64 x)).run Tryz.prog (w.alloc (.map (effA i) i))=.ok () (w.alloc (.map (effA i) i)) :=
  MapKept.run_checkKey (k:=.int .i64 x) Tryz.underlying3 (by simp [MapKept.IsKey]) false 9999
 have he:effA (i+1)=(effA i).push { key:=.int .i64 x,val:=.agg #[.int .i64 t,.int .i64 l],born:=i }:=by
  show (effA i).push (entOf i _)=_
  rw [hx];rfl
 rw [he];simp [Instr.mapUpdate,run_underlying Tryz.underlying364,MapKept.run_getObj_map hb,hc,MapKept.run_findKey Tryz.underlying3 hf,MapKept.run_setObj_map _ hb,Result.andThen];exact alloc_over w _ _
def EffMap (w:World) (r:Nat):Prop:=w.heap[r]?=some (.map (effA 16) 16)
theorem eff_find (o:Int) (h:0<=o/\o<=17):(o=0 \/ o=16)/\Instr.findNow (.int .i64) (.int .i64 o) (effA 16).toList 0=some none \/ ∃ j,Instr.findNow (.int .i64) (.int .i64 o) (effA 16).toList 0=some (some (j,.agg #[.int .i64 (takesF o),.int .i64 (leavesF o)])):=by
 obtain ⟨n,rfl⟩:=Int.eq_ofNat_of_zero_le h.1;have hn:n<=17:=(by omega)
 match n,hn with
 | 0,_=>exact .inl ⟨.inl rfl,by rfl⟩
 | 16,_=>exact .inl ⟨.inr rfl,by rfl⟩
 | 1,_=>exact .inr ⟨0,by rfl⟩
 | 2,_=>exact .inr ⟨1,by rfl⟩
 | 3,_=>exact .inr ⟨2,by rfl⟩
 | 4,_=>exact .inr ⟨3,by rfl⟩
 | 5,_=>exact .inr ⟨4,by rfl⟩
 | 13,_=>exact .inr ⟨5,by rfl⟩
 | 14,_=>exact .inr ⟨6,by rfl⟩
 | 15,_=>exact .inr ⟨7,by rfl⟩
 | 6,_=>exact .inr ⟨8,by rfl⟩
 | 7,_=>exact .inr ⟨9,by rfl⟩
 | 8,_=>exact .inr ⟨10,by rfl⟩
 | 17,_=>exact .inr ⟨11,by rfl⟩
 | 9,_=>exact .inr ⟨12,by rfl⟩
 | 10,_=>exact .inr ⟨13,by rfl⟩
 | 11,_=>exact .inr ⟨14,by rfl⟩
 | 12,_=>exact .inr ⟨15,by rfl⟩
theorem eff_look {w:World} {r:Nat} (h:EffMap w r) (o:Int) (ho:0<=o/\o<=17):(Instr.lookup 364 (.map (some r)) (.int .i64 o) false).run Tryz.prog w=.ok (.agg #[.int .i64 (takesF o),.int .i64 (leavesF o)]) w:=by
 have hc:∀ b,(Instr.checkKey b 10000 3 (.int .i64 o)).run Tryz.prog w=.ok () w:=fun b =>
  MapKept.run_checkKey (k:=.int .i64 o) Tryz.underlying3 (by simp [MapKept.IsKey]) b 9999
 have hz:(zeroValue 377).run Tryz.prog w=.ok (.agg #[.int .i64 0,.int .i64 0]) w:=(by kernel_rfl)
 rcases eff_find o ho with ⟨h0,hf⟩ | ⟨j,hf⟩
 ·
  have e1:takesF o=0:=by rcases h0 with rfl | rfl <;> rfl
  have e2:leavesF o=0:=by rcases h0 with rfl | rfl <;> rfl
  rw [e1,e2];simp [Instr.lookup,run_underlying Tryz.underlying364,MapKept.run_getObj_map h,hc,MapKept.run_findKey Tryz.underlying3 hf,hz,Result.andThen]
 · simp [Instr.lookup,run_underlying Tryz.underlying364,MapKept.run_getObj_map h,hc,MapKept.run_findKey Tryz.underlying3 hf,Result.andThen]
theorem effects_any (w:World):Calls Tryz.prog 233 #[] w fun e w'=>e=.returned (.map (some w.heap.size))/\w'=w.alloc (.map (effA 16) 16):=by
 have hmk:(Instr.makeMap 364 none).run Tryz.prog w=.ok (.map (some w.heap.size)) (w.alloc (.map (effA 0) 0)):=by
  show _=Result.ok _ (w.alloc (.map #[] 0))
  simp [Instr.makeMap,Result.andThen]
 have i0:=eff_ins w 0 1 0 1 rfl rfl;have i1:=eff_ins w 1 2 0 1 rfl rfl;have i2:=eff_ins w 2 3 0 1 rfl rfl;have i3:=eff_ins w 3 4 0 1 rfl rfl;have i4:=eff_ins w 4 5 1 0 rfl rfl;have i5:=eff_ins w 5 13 1 0 rfl rfl;have i6:=eff_ins w 6 14 1 0 rfl rfl;have i7:=eff_ins w 7 15 1 0 rfl rfl;have i8:=eff_ins w 8 6 2 1 rfl rfl;have i9:=eff_ins w 9 7 2 1 rfl rfl;have i10:=eff_ins w 10 8 2 1 rfl rfl;have i11:=eff_ins w 11 17 2 1 rfl rfl;have i12:=eff_ins w 12 9 1 1 rfl rfl;have i13:=eff_ins w 13 10 1 1 rfl rfl;have i14:=eff_ins w 14 11 1 2 rfl rfl;have i15:=eff_ins w 15 12 2 2 rfl rfl;simp only [Nat.reduceAdd] at i0 i1 i2 i3 i4 i5 i6 i7 i8 i9 i10 i11 i12 i13 i14 i15;go_enter Tryz.func233,Tryz.ntmps233;go_wp2_with fail;go_ret;exact ⟨rfl,rfl⟩
def boF (o:Int):Int:=if o=1 \/ o=2 then -524288 else if o=4 \/ o=5 then 0 else if o=15 \/ o=16 then 1 else 0
def boT (o:Int):Int:=if o=1 \/ o=2 then 524287 else if o=4 \/ o=5 then 1 else if o=15 \/ o=16 then 24 else 0
def boB (o:Int):Bool:=decide (o=1 \/ o=2 \/ o=4 \/ o=5 \/ o=15 \/ o=16)
theorem bo_other {o:Int} (h:¬ (o=1 \/ o=2 \/ o=4 \/ o=5 \/ o=15 \/ o=16)):boF o=0/\boT o=0/\boB o=false:=by
 refine ⟨?_,?_,?_⟩
 · unfold boF;rw [if_neg (by omega),if_neg (by omega),if_neg (by omega)]
 · unfold boT;rw [if_neg (by omega),if_neg (by omega),if_neg (by omega)]
 · unfold boB;exact decide_eq_false h
theorem bounds_any (o:Int) (w:World):Calls Tryz.prog 252 #[.int .i64 o] w fun e w'=>e=.returned (.tuple #[.int .i64 (boF o),.int .i64 (boT o),.bool (boB o)])/\w=w':=by
 by_cases h:o=1 \/ o=2 \/ o=4 \/ o=5 \/ o=15 \/ o=16
 ·
  rcases h with rfl | rfl | rfl | rfl | rfl | rfl
  ·
   show Calls _ _ _ _ fun e w'=>e=.returned (.tuple #[.int .i64 (-524288),.int .i64 524287,.bool true])/\w=w'
   go_enter Tryz.func252,Tryz.ntmps252;go_wp2_with fail;go_ret3;exact ⟨rfl,rfl⟩
  ·
   show Calls _ _ _ _ fun e w'=>e=.returned (.tuple #[.int .i64 (-524288),.int .i64 524287,.bool true])/\w=w'
   go_enter Tryz.func252,Tryz.ntmps252;go_wp2_with fail;go_ret3;exact ⟨rfl,rfl⟩
  ·
   show Calls _ _ _ _ fun e w'=>e=.returned (.tuple #[.int .i64 0,.int .i64 1,.bool true])/\w=w'
   go_enter Tryz.func252,Tryz.ntmps252;go_wp2_with fail;go_ret3;exact ⟨rfl,rfl⟩
  ·
   show Calls _ _ _ _ fun e w'=>e=.returned (.tuple #[.int .i64 0,.int .i64 1,.bool true])/\w=w'
   go_enter Tryz.func252,Tryz.ntmps252;go_wp2_with fail;go_ret3;exact ⟨rfl,rfl⟩
  ·
   show Calls _ _ _ _ fun e w'=>e=.returned (.tuple #[.int .i64 1,.int .i64 24,.bool true])/\w=w'
   go_enter Tryz.func252,Tryz.ntmps252;go_wp2_with fail;go_ret3;exact ⟨rfl,rfl⟩
  ·
   show Calls _ _ _ _ fun e w'=>e=.returned (.tuple #[.int .i64 1,.int .i64 24,.bool true])/\w=w'
   go_enter Tryz.func252,Tryz.ntmps252;go_wp2_with fail;go_ret3;exact ⟨rfl,rfl⟩
 · obtain ⟨e1,e2,e3⟩:=bo_other h;rw [e1,e2,e3];clear e1 e2 e3;have h1:(o == 1)=false:=(by simp;omega);have h2:(o == 2)=false:=(by simp;omega);have h4:(o == 4)=false:=(by simp;omega);have h5:(o == 5)=false:=(by simp;omega);have h15:(o == 15)=false:=(by simp;omega);have h16:(o == 16)=false:=(by simp;omega);clear h;go_enter Tryz.func252,Tryz.ntmps252;go_wp2_with fail;go_ret3;exact ⟨rfl,rfl⟩
def rightB (i:Int × Int):Bool:=decide (0<=i.1/\i.1 < 18/\boF i.1<=i.2/\i.2<=boT i.1)
theorem cright_any (i:Int × Int) (w:World):Calls Tryz.prog 242 #[.agg #[.int .i64 i.1,.int .i64 i.2]] w fun e w'=>e=.returned (.bool (rightB i))/\Fr w.heap.size [] w w':=by
 obtain ⟨o,a⟩:=i;obtain ⟨v,hv⟩:=nm (rightB (o,a));rw [<- hv];unfold rightB at hv;have HB:=zh (bounds_any o);simp only at hv ⊢;generalize boF o=f at *;generalize boT o=t at *;generalize boB o=b at *
 by_cases c1:o < 0
 ·
  obtain rfl:v=false:=by rw [hv];exact decide_eq_false (by omega)
  clear hv;go_enter Tryz.func242,Tryz.ntmps242;go_wp2_with fail;refine (HB.out _).mono ?_;rintro e w' ⟨rfl,rfl⟩;go_wp2_with fail;go_ret;exact ⟨rfl,(Fr.refl _ _ _).alloc (Nat.le_refl _) _⟩
 by_cases c2:o < 18
 case neg =>
  obtain rfl:v=false:=by rw [hv];exact decide_eq_false (by omega)
  clear hv;go_enter Tryz.func242,Tryz.ntmps242;go_wp2_with fail;refine (HB.out _).mono ?_;rintro e w' ⟨rfl,rfl⟩;go_wp2_with fail;go_ret;exact ⟨rfl,(Fr.refl _ _ _).alloc (Nat.le_refl _) _⟩
 by_cases c3:a < f
 ·
  obtain rfl:v=false:=by rw [hv];exact decide_eq_false (by omega)
  clear hv;go_enter Tryz.func242,Tryz.ntmps242;go_wp2_with fail;refine (HB.out _).mono ?_;rintro e w' ⟨rfl,rfl⟩;go_wp2_with fail;go_ret;exact ⟨rfl,(Fr.refl _ _ _).alloc (Nat.le_refl _) _⟩
 by_cases c4:t < a
 ·
  obtain rfl:v=false:=by rw [hv];exact decide_eq_false (by omega)
  clear hv;have hd:decide (a<=t)=false:=decide_eq_false (by omega);go_enter Tryz.func242,Tryz.ntmps242;go_wp2_with fail;refine (HB.out _).mono ?_;rintro e w' ⟨rfl,rfl⟩;go_wp2_with fail;go_ret;exact ⟨rfl,(Fr.refl _ _ _).alloc (Nat.le_refl _) _⟩
 ·
  obtain rfl:v=true:=by rw [hv];exact decide_eq_true (by omega)
  clear hv;go_enter Tryz.func242,Tryz.ntmps242;go_wp2_with fail;refine (HB.out _).mono ?_;rintro e w' ⟨rfl,rfl⟩;go_wp2_with fail;go_ret;exact ⟨rfl,(Fr.refl _ _ _).alloc (Nat.le_refl _) _⟩
def insC (x:Int × Int):List Value:=[.int .i64 x.1,.int .i64 x.2]
def cellsI (l:List (Int × Int)):List Value:=l.flatMap insC
theorem cellsI_length (l:List (Int × Int)):(cellsI l).length=l.length * 2:=by
 unfold cellsI
 induction l with
 | nil=>rfl
 | cons x l ih=>rw [List.flatMap_cons,List.length_append,ih];simp [insC];omega
theorem cellsI_get:∀ {l:List (Int × Int)} {k:Nat} {x:Int × Int},l[k]?=some x->(cellsI l)[k * 2]?=some (.int .i64 x.1)/\(cellsI l)[k * 2+1]?=some (.int .i64 x.2)
 | [],k,x,h=>by simp at h
 | y :: l,0,x,h=>by
  simp at h;subst h;exact ⟨rfl,rfl⟩
 | y :: l,k+1,x,h=>by
  have ih:=cellsI_get (l:=l) (k:=k) (x:=x) (by simpa using h);have e:cellsI (y :: l)=.int .i64 y.1 :: .int .i64 y.2 :: cellsI l:=rfl;rw [e,show (k+1) * 2=k * 2+1+1 by omega];exact ih
theorem reads_ins {w:World} {B:Nat} {A:Option Addr} {l:List (Int × Int)} (h:Reads w B 2 A l.length (cellsI l)) {k:Nat} {x:Int × Int} (hx:l[k]?=some x) :
  ∃ b off,A=some ⟨b,off,none⟩/\b < B/\w.cell? ⟨b,off+k * 2,none⟩=some (.int .i64 x.1)/\w.cell? ⟨b,off+k * 2+1,none⟩=some (.int .i64 x.2):=by
 have hk:k < l.length:=by
  rcases Nat.lt_or_ge k l.length with h' | h'
  · exact h'
  · rw [List.getElem?_eq_none h'] at hx;cases hx
 obtain ⟨b,off,e,hb,hc⟩:=h.2 (by omega);obtain ⟨h1,h2⟩:=cellsI_get hx;exact ⟨b,off,e,hb,hc _ _ h1,by rw [Nat.add_assoc];exact hc _ _ h2⟩
def fitsB (l:List (Int × Int)):Bool:=decide (l.length<=24) && l.all rightB
theorem wrong_any (i:Int × Int) (w:World):Calls Tryz.prog 241 #[.agg #[.int .i64 i.1,.int .i64 i.2]] w fun e w'=>e=.returned (.bool (!rightB i))/\Fr w.heap.size [] w w':=by
 have H:=zh (cright_any i);generalize rightB i=v at *;go_enter Tryz.func241,Tryz.ntmps241;go_wp2_with fail;refine (H.out _).mono ?_;rintro e w1 ⟨rfl,f1⟩;have F1:=zh (((Fr.refl _ _ _).alloc (Nat.le_refl _) _).trans (f1.mono (by simp) (by simp)):Fr w.heap.size [] w w1);clear f1;go_wp2_with fail;go_ret;exact ⟨rfl,F1.out⟩
def SomeIdx (b:Bool) (w:World) (e:Ending) (w':World):Prop:=∃ i:Int,e=.returned (.int .i64 i)/\(decide (0<=i)=b)/\Fr w.heap.size [] w w'
theorem all_take_succ {f:Int × Int->Bool} {l:List (Int × Int)} {k:Nat} {x:Int × Int} (h:l[k]?=some x):(l.take (k+1)).all f=((l.take k).all f && f x):=by
 rw [List.take_add_one,h,List.all_append];simp
theorem all_bad {f:Int × Int->Bool} {l:List (Int × Int)} {k:Nat} {x:Int × Int} (h:l[k]?=some x) (hf:f x=false):l.all f=false:=by
 rw [List.all_eq_false];exact ⟨x,List.mem_of_getElem? h,by simp [hf]⟩
theorem iindex_any (A:Option Addr) (c B:Nat) (l:List (Int × Int)) (w:World) (hr:Reads w B 2 A l.length (cellsI l)) (hB:B<=w.heap.size) (hn:l.length<=maxLen) :
  Calls Tryz.prog 253 #[.slice A l.length c,.func (.func 241) #[] #[]] w (SomeIdx (!l.all rightB) w):=by
 unfold maxLen at hn;have HR:=zh hr;obtain ⟨n,hnl⟩:=nm (l.length);rw [<- hnl] at hn ⊢;have HN:=zh hnl;clear hr hnl;go_enter Tryz.func253,Tryz.ntmps253;go_wp2_with fail;go_loopw [8] (fun i wr=>∃ k:Nat,k<=n/\i=.int .i64 k/\Hid ((l.take k).all rightB=true)/\Hid (Fr w.heap.size [] w wr)) (fun i _=>n - (intOf i).toNat)
 case atStart=>exact ⟨0,Nat.zero_le _,rfl,rfl,Fr.refl _ _ _⟩
 case round =>
  obtain ⟨k,hk,rfl,HA,HF⟩:=hrel
  by_cases hlt:k < n
  ·
   obtain ⟨x,hx⟩:∃ x,l[k]?=some x:=⟨_,List.getElem?_eq_getElem (by rw [<- HN.out];exact hlt)⟩;obtain ⟨b,off,rfl,hb,c1,c2⟩:=reads_ins (HR.out.fr HF.out hB (by simp)) hx;have hki:(k:Int) < (n:Int):=(by omega);have HX:=zh hx;clear hx;go_wp2_with fail;refine (wrong_any x _).mono ?_;rintro e w1 ⟨rfl,f1⟩;have F1:=zh (HF.out.nx f1);clear f1
   cases hrx:rightB x
   case false =>
    have HV:=zh (all_bad HX.out hrx);clear hrx;go_wp2_with fail;go_ret;exact ⟨k,rfl,by rw [HV.out];simp,F1.out⟩
   case true =>
    have HV:=zh hrx;clear hrx;go_wp2_with fail;go_roundw
    case rel=>exact ⟨k+1,by omega,by go_num,(by show _=_;rw [all_take_succ HX.out,HA.out,HV.out];rfl),F1.out⟩
    case measure=>simp [intOf];omega
  ·
   obtain rfl:n=k:=by omega
   go_wp2_with fail;go_ret;refine ⟨-1,rfl,?_,HF.out⟩;have h:=HA.out;rw [List.take_of_length_le (by rw [HN.out];exact Nat.le_refl _)] at h;rw [h];rfl
theorem icontains_any (A:Option Addr) (c B:Nat) (l:List (Int × Int)) (w:World) (hr:Reads w B 2 A l.length (cellsI l)) (hB:B<=w.heap.size) (hn:l.length<=maxLen) :
  Calls Tryz.prog 243 #[.slice A l.length c,.func (.func 241) #[] #[]] w fun e w'=>e=.returned (.bool (!l.all rightB))/\Fr w.heap.size [] w w':=by
 have H:=zh (iindex_any A c B l w hr hB hn);clear hr hn hB;go_enter Tryz.func243,Tryz.ntmps243;go_wp2_with fail;refine H.out.mono ?_;rintro e w' ⟨i,rfl,hi,hf⟩;have HI:=zh hi;have HF:=zh hf;clear hi hf;go_wp2_with fail;go_ret;exact ⟨by rw [<- HI.out];rfl,HF.out⟩
theorem fits_any (A:Option Addr) (c B:Nat) (l:List (Int × Int)) (w:World) (hr:Reads w B 2 A l.length (cellsI l)) (hB:B<=w.heap.size) (hn:l.length<=maxLen) :
  Calls Tryz.prog 232 #[.slice A l.length c] w fun e w'=>e=.returned (.bool (fitsB l))/\Fr w.heap.size [] w w':=by
 have H:=zh (icontains_any A c B l w hr hB hn);unfold maxLen at hn;clear hr;obtain ⟨v,hv⟩:=nm (fitsB l);rw [<- hv];unfold fitsB at hv;obtain ⟨n,hnl⟩:=nm (l.length);rw [<- hnl] at hn hv H ⊢;clear hnl
 by_cases h24:n<=24
 · rw [decide_eq_true h24,Bool.true_and] at hv;rw [<- hv] at H;have HV:=zh hv;clear hv;go_enter Tryz.func232,Tryz.ntmps232;go_wp2_with fail;refine H.out.mono ?_;rintro e w' ⟨rfl,hf⟩;have HF:=zh hf;clear hf;go_wp2_with fail;go_ret;exact ⟨by simp,HF.out⟩
 · rw [decide_eq_false h24,Bool.false_and] at hv;subst hv;go_enter Tryz.func232,Tryz.ntmps232;go_wp2_with fail;go_ret;exact ⟨rfl,Fr.refl _ _ _⟩
abbrev wkC (gd ge gm n:Nat) (A:Option Addr) (c:Nat) (s:CS):Array Value :=
 #[.slice (some ⟨gd,0,none⟩) n n,.int .i64 s.mx,.int .i64 s.em,.bool s.u0,.bool s.u1,.slice A n c,.slice (some ⟨ge,0,none⟩) n n,.map (some gm)]
structure WMem (gw gd ge gm n:Nat) (A:Option Addr) (c:Nat) (s:CS) (w:World):Prop where
 blk:Blk w gw 367 (wkC gd ge gm n A c s)
 dep:Blk w gd 3 (intsA n s.D)
 ems:Blk w ge 3 (intsA n s.E)
 map:EffMap w gm
 ne1:gd ≠ gw
 ne2:ge ≠ gw
 ne3:gd ≠ ge
theorem EffMap.lt {w:World} {r:Nat} (h:EffMap w r):r < w.heap.size:=by
 rcases Nat.lt_or_ge r w.heap.size with hlt | hge
 · exact hlt
 · unfold EffMap at h;rw [Array.getElem?_eq_none hge] at h;cases h
theorem EffMap.far {w:World} {r:Nat} (h:EffMap w r) {p:Addr} (hp:r ≠ p.block) (u:Value):EffMap (w.setCell p u) r:=(Below.heap_setCell w p u r hp).trans h
theorem EffMap.ne {w:World} {r g t:Nat} {cs:Array Value} (h:EffMap w r) (hb:Blk w g t cs):r ≠ g:=by
 rintro rfl;unfold EffMap at h;unfold Blk at hb;rw [h] at hb
 cases hb
theorem EffMap.fr {w w':World} {r B:Nat} {L:List Nat} (h:EffMap w r) (hf:Fr B L w w') (h1:r < B) (h2:r ∉ L):EffMap w' r:=(hf.block r h1 h2).trans h
theorem WMem.drewN {gw gd ge gm n:Nat} {A:Option Addr} {c:Nat} {s:CS} {w:World} (h:WMem gw gd ge gm n A c s w) (m:Nat):WMem gw gd ge gm n A c s (w.drewN m):=⟨h.blk,h.dep,h.ems,h.map,h.ne1,h.ne2,h.ne3⟩
theorem WMem.drew {gw gd ge gm n:Nat} {A:Option Addr} {c:Nat} {s:CS} {w:World} (h:WMem gw gd ge gm n A c s w):WMem gw gd ge gm n A c s w.drew:=⟨h.blk,h.dep,h.ems,h.map,h.ne1,h.ne2,h.ne3⟩
theorem WMem.keep {gw gd ge gm n:Nat} {A:Option Addr} {c:Nat} {s:CS} {w w':World} (h:WMem gw gd ge gm n A c s w) (hf:Fr w.heap.size [] w w'):WMem gw gd ge gm n A c s w' :=
 ⟨h.blk.fr hf h.blk.lt (by simp),h.dep.fr hf h.dep.lt (by simp),h.ems.fr hf h.ems.lt (by simp),h.map.fr hf h.map.lt (by simp),h.ne1,h.ne2,h.ne3⟩
theorem WMem.top {gw gd ge gm n:Nat} {A:Option Addr} {c:Nat} {s:CS} {w:World} (h:WMem gw gd ge gm n A c s w) (a b:Int) :
  WMem gw gd ge gm n A c { s with mx:=a,em:=b } ((w.setCell ⟨gw,1,none⟩ (.int .i64 a)).setCell ⟨gw,2,none⟩ (.int .i64 b)) :=
 ⟨(h.blk.set_ 1 _).set_ 2 _, (h.dep.far (p := ⟨gw, 1, none⟩) h.ne1 _).far (p := ⟨gw, 2, none⟩) h.ne1 _, (h.ems.far (p := ⟨gw, 1, none⟩) h.ne2 _).far (p := ⟨gw, 2, none⟩) h.ne2 _,
  (h.map.far (p:=⟨gw,1,none⟩) (h.map.ne h.blk) _).far (p:=⟨gw,2,none⟩) (h.map.ne h.blk) _,h.ne1,h.ne2,h.ne3⟩
theorem WMem.setD {gw gd ge gm n:Nat} {A:Option Addr} {c:Nat} {s:CS} {w:World} (h:WMem gw gd ge gm n A c s w) (t:Nat) (d:Int) :
  WMem gw gd ge gm n A c { s with D:=updC s.D t d } (w.setCell ⟨gd,t,none⟩ (.int .i64 d)):=by
 have hb:=h.dep.set_ t (.int .i64 d);rw [intsA_set] at hb;exact ⟨h.blk.far (p:=⟨gd,t,none⟩) h.ne1.symm _,hb,h.ems.far (p:=⟨gd,t,none⟩) h.ne3.symm _,h.map.far (p:=⟨gd,t,none⟩) (h.map.ne h.dep) _,h.ne1,h.ne2,h.ne3⟩
theorem WMem.setE {gw gd ge gm n:Nat} {A:Option Addr} {c:Nat} {s:CS} {w:World} (h:WMem gw gd ge gm n A c s w) (t:Nat) (d:Int) :
  WMem gw gd ge gm n A c { s with E:=updC s.E t d } (w.setCell ⟨ge,t,none⟩ (.int .i64 d)):=by
 have hb:=h.ems.set_ t (.int .i64 d);rw [intsA_set] at hb;exact ⟨h.blk.far (p:=⟨ge,t,none⟩) h.ne2.symm _,h.dep.far (p:=⟨ge,t,none⟩) h.ne3 _,hb,h.map.far (p:=⟨ge,t,none⟩) (h.map.ne h.ems) _,h.ne1,h.ne2,h.ne3⟩
def ComeOut (gw gd ge gm n:Nat) (A:Option Addr) (c:Nat) (r:Option CS) (w:World) (e:Ending) (w':World):Prop :=
 e=.returned (.bool r.isSome)/\(∀ s',r=some s'->WMem gw gd ge gm n A c s' w')/\Fr w.heap.size [gw,gd,ge] w w'
theorem max_if (a b:Int):max a b=if a < b then b else a:=by split <;> omega
theorem come_any (gw gd ge gm n:Nat) (A:Option Addr) (c:Nat) (s:CS) (t:Nat) (d e:Int) (w:World) (hn:n<=24) (ht:t<=n) (hm:WMem gw gd ge gm n A c s w) :
  Calls Tryz.prog 235 #[.pointer (some ⟨gw,0,none⟩),.int .i64 t,.int .i64 d,.int .i64 e] w (ComeOut gw gd ge gm n A c (comeF n s t d e) w):=by
 obtain ⟨r,hr⟩:=nm (comeF n s t d e);rw [<- hr];unfold comeF at hr;have HR:=zh hr;have M:=zh hm;have c1:=hm.blk.cell 1;have c2:=hm.blk.cell 2;have z1:=hm.blk.frozen 1;have z2:=hm.blk.frozen 2;simp at c1 c2;have hgw:=hm.blk.lt;clear hr hm;go_enter Tryz.func235,Tryz.ntmps235;go_wp2_with fail;go_region
 have M1:Hid (WMem gw gd ge gm n A c { s with mx:=max s.mx d,em:=max s.em e } ((w.setCell ⟨gw,1,none⟩ (.int .i64 (if s.mx < d then d else s.mx))).setCell ⟨gw,2,none⟩ (.int .i64 (if s.em < e then e else s.em))).drew):=by
  rw [max_if,max_if];exact (M.out.top _ _).drew
 have F1:Hid (Fr w.heap.size [gw,gd,ge] w ((w.setCell ⟨gw,1,none⟩ (.int .i64 (if s.mx < d then d else s.mx))).setCell ⟨gw,2,none⟩ (.int .i64 (if s.em < e then e else s.em))).drew) :=
  (((Fr.refl _ _ _).setCell (p:=⟨gw,1,none⟩) (.inr (by simp)) _).setCell (p:=⟨gw,2,none⟩) (.inr (by simp)) _).drew
 generalize (if s.mx < d then d else s.mx)=a1 at *;generalize (if s.em < e then e else s.em)=a2 at *;generalize ((w.setCell ⟨gw,1,none⟩ (.int .i64 a1)).setCell ⟨gw,2,none⟩ (.int .i64 a2)).drew=w1 at *;clear c1 c2 z1 z2 hgw M
 by_cases h1:8 < d
 ·
  obtain rfl:r=none:=by rw [HR.out,if_pos (.inl h1)]
  go_wp2_with fail;go_ret;exact ⟨rfl,(fun _ h=>by cases h),F1.out⟩
 by_cases h2:4 < e
 ·
  obtain rfl:r=none:=by rw [HR.out,if_pos (.inr h2)]
  go_wp2_with fail;go_ret;exact ⟨rfl,(fun _ h=>by cases h),F1.out⟩
 have c5:=M1.out.blk.cell 5;simp at c5
 by_cases h3:t=n
 ·
  have hr:r=some { s with mx:=max s.mx d,em:=max s.em e }:=by rw [HR.out,if_neg (by omega),if_pos h3]
  subst h3;have HRR:=zh hr;clear hr;go_wp2_with fail;go_ret;exact ⟨by rw [HRR.out];simp,fun s' h=>by rw [HRR.out] at h;injection h with h;subst h;exact M1.out,F1.out⟩
 have htn:(t:Int) < (n:Int):=(by omega);have hne:((t:Int) == (n:Int))=false:=(by simp;omega);have c0:=M1.out.blk.cell 0;simp at c0;have cd:=(M1.out.dep.cell t).trans (intsA_get _ (by omega));have zd:=M1.out.dep.frozen t
 by_cases h4:s.D t ≠ -1/\s.D t ≠ d
 ·
  obtain rfl:r=none:=by rw [HR.out,if_neg (by omega),if_neg h3,if_pos h4]
  obtain ⟨h5,h6⟩:=h4;have b1:(s.D t != -1)=true:=(by simpa using h5);have b2:(s.D t != d)=true:=(by simpa using h6);clear h5 h6;go_wp2_with fail;go_ret;exact ⟨rfl,(fun _ h=>by cases h),F1.out⟩
 have hr:r=some { s with D:=updC s.D t d,E:=updC s.E t (max (s.E t) e),mx:=max s.mx d,em:=max s.em e }:=(by rw [HR.out,if_neg (by omega),if_neg h3,if_neg h4]);have HRR:=zh hr
 have h4':(s.D t != -1)=false \/ ((s.D t != -1)=true/\(s.D t != d)=false):=by
  by_cases h5:s.D t = -1
  · exact .inl (by simp [h5])
  ·
   by_cases h6:s.D t=d
   · exact .inr ⟨by simpa using h5,by simp [h6]⟩
   · exact absurd ⟨h5,h6⟩ h4
 clear hr h4;have M2:=zh (M1.out.setD t d);have F2:=zh (F1.out.setCell (p:=⟨gd,t,none⟩) (.inr (by simp)) (.int .i64 d))
 rcases h4' with b1 | ⟨b1,b2⟩
 all_goals
  go_upto_region 9 with fail;generalize w1.setCell ⟨gd,t,none⟩ (.int .i64 d)=w2 at *;clear c0 c5 cd zd M1 F1;have c6:=M2.out.blk.cell 6;have ce:=(M2.out.ems.cell t).trans (intsA_get _ (by omega));have ze:=M2.out.ems.frozen t;simp at c6;simp only at ce;refine wp_region_still_tail 15 (by kernel_rfl) (by kernel_rfl) ?_;simp only [List.take_succ_cons,List.take_zero,List.drop_succ_cons,List.drop_zero]
  repeat still_step
  refine wpStill_nil ?_
  change wpList _ _ _ _ _ w2.drew
  go_wp2_with fail
  all_goals
   go_ret;refine ⟨by rw [HRR.out];rfl,fun s' h => ?_,(F2.out.setCell (p:=⟨ge,t,none⟩) (.inr (by simp)) _).drew⟩;rw [HRR.out] at h;injection h with h
   subst h
   first
    | (rw [show max (s.E t) e=e by omega];exact (M2.out.setE t e).drew)
    | (rw [show max (s.E t) e=s.E t by omega];exact (M2.out.setE t (s.E t)).drew)
theorem right_range {i:Int × Int} (h:rightB i=true):0<=i.1/\i.1<=17 /\ -524288<=i.2/\i.2<=524287/\((i.1=15 \/ i.1=16)->1<=i.2/\i.2<=24)/\((i.1=4 \/ i.1=5)->0<=i.2/\i.2<=1):=by
 obtain ⟨o,a⟩:=i;unfold rightB boF boT at h;have h:=of_decide_eq_true h;simp only at h ⊢
 by_cases h1:o=1 \/ o=2
 · rw [if_pos h1,if_pos h1] at h;omega
 ·
  rw [if_neg h1,if_neg h1] at h
  by_cases h2:o=4 \/ o=5
  · rw [if_pos h2,if_pos h2] at h;omega
  ·
   rw [if_neg h2,if_neg h2] at h
   by_cases h3:o=15 \/ o=16
   · rw [if_pos h3,if_pos h3] at h;omega
   · rw [if_neg h3,if_neg h3] at h;omega
def NextOut (L:List Nat) (w:World) (e:Ending) (w':World):Prop :=
 ∃ A c,e=.returned (.slice A L.length c)/\Reads w' w'.heap.size 1 A L.length (L.map fun t:Nat=>Value.int .i64 t)/\(∀ ad,A=some ad->w.heap.size<=ad.block)/\Fr w.heap.size [] w w'
theorem reads_new1 (w:World) (a:Nat):Reads (w.alloc (.cells #[.int .i64 a] 3)) (w.alloc (.cells #[.int .i64 a] 3)).heap.size 1 (some ⟨w.heap.size,0,none⟩) 1 ([a].map fun t:Nat=>Value.int .i64 t) :=
 (Reads.of_blk (size:=1) (m:=1) (Blk.new w 3 #[.int .i64 a]) rfl).more (by simp)
theorem reads_new2 (w:World) (a b:Nat):Reads (w.alloc (.cells #[.int .i64 a,.int .i64 b] 3)) (w.alloc (.cells #[.int .i64 a,.int .i64 b] 3)).heap.size 1 (some ⟨w.heap.size,0,none⟩) 2 ([a,b].map fun t:Nat=>Value.int .i64 t) :=
 (Reads.of_blk (size:=1) (m:=2) (Blk.new w 3 #[.int .i64 a,.int .i64 b]) rfl).more (by simp)
theorem next_any (A:Option Addr) (c B:Nat) (l:List (Int × Int)) (k:Nat) (i:Int × Int) (w:World) (hr:Reads w B 2 A l.length (cellsI l)) (hB:B<=w.heap.size) (hn:l.length<=24) (hx:l[k]?=some i) (hi:rightB i=true) :
  Calls Tryz.prog 245 #[.slice A l.length c,.int .i64 k] w (NextOut (nextsF l.length k i) w):=by
 have hkl:k < l.length:=by
  rcases Nat.lt_or_ge k l.length with h' | h'
  · exact h'
  · rw [List.getElem?_eq_none h'] at hx;cases hx
 obtain ⟨b,off,rfl,hb,c1,c2⟩:=reads_ins hr hx;obtain ⟨r1,r2,r3,r4,r5,r6⟩:=right_range hi;obtain ⟨o,a⟩:=i;obtain ⟨n,hnl⟩:=nm (l.length);rw [<- hnl] at hn hkl ⊢;have hbw:b < w.heap.size:=(by omega);simp only at c1 c2 r1 r2 r3 r4 r5 r6;clear hr hx hi hnl hb hB;obtain ⟨L,hL⟩:=nm (nextsF n k (o,a));rw [<- hL];unfold nextsF at hL;simp only at hL;have hki:(k:Int) < (n:Int):=(by omega)
 by_cases h0:o=0
 ·
  rw [if_pos h0] at hL;subst hL h0;clear r5 r6
  by_cases hf:(k:Int)+1+a<=n
  all_goals
   go_enter Tryz.func245,Tryz.ntmps245;go_wp2_with fail;go_ret;exact ⟨none,0,rfl,Reads.none_,(fun _ h=>by cases h),(Fr.refl _ _ _).alloc (Nat.le_refl _) _⟩
 by_cases h16:o=16
 ·
  rw [if_neg h0,if_pos h16] at hL;obtain ⟨q1,q2⟩:=r5 (.inr h16);obtain ⟨m,hm⟩:=Int.eq_ofNat_of_zero_le (show 0<=a by omega);have hm':a=(m:Int):=hm;subst hm' h16;unfold farF at hL;rw [Int.toNat_natCast] at hL;clear r5 r6 h0 hm
  by_cases hf:k+1+m<=n
  · rw [Nat.min_eq_left hf] at hL;subst hL;have hf':(k:Int)+1+m<=n:=(by omega);go_enter Tryz.func245,Tryz.ntmps245;go_wp2_with fail;go_ret;refine ⟨_,1,rfl,?_,(fun ad h=>by injection h with h;subst h;simp),((Fr.refl _ _ _).alloc (Nat.le_refl _) _).alloc (by simp) _⟩;have h:=reads_new1 (w.alloc (.cells #[.int .i64 16,.int .i64 m] 217)) (k+1+m);simpa using h
  · rw [Nat.min_eq_right (by omega)] at hL;subst hL;have hf':(n:Int) < (k:Int)+1+m:=(by omega);go_enter Tryz.func245,Tryz.ntmps245;go_wp2_with fail;go_ret;refine ⟨_,1,rfl,?_,(fun ad h=>by injection h with h;subst h;simp),((Fr.refl _ _ _).alloc (Nat.le_refl _) _).alloc (by simp) _⟩;have h:=reads_new1 (w.alloc (.cells #[.int .i64 16,.int .i64 m] 217)) n;simpa using h
 by_cases h15:o=15
 ·
  rw [if_neg h0,if_neg h16,if_pos h15] at hL;obtain ⟨q1,q2⟩:=r5 (.inl h15);obtain ⟨m,hm⟩:=Int.eq_ofNat_of_zero_le (show 0<=a by omega);have hm':a=(m:Int):=hm;subst hm' h15;unfold farF at hL;rw [Int.toNat_natCast] at hL;clear r5 r6 h0 h16 hm
  by_cases hf:k+1+m<=n
  · rw [Nat.min_eq_left hf] at hL;subst hL;have hf':(k:Int)+1+m<=n:=(by omega);go_enter Tryz.func245,Tryz.ntmps245;go_wp2_with fail;go_ret;refine ⟨_,2,rfl,?_,(fun ad h=>by injection h with h;subst h;simp),((Fr.refl _ _ _).alloc (Nat.le_refl _) _).alloc (by simp) _⟩;have h:=reads_new2 (w.alloc (.cells #[.int .i64 15,.int .i64 m] 217)) (k+1) (k+1+m);simpa using h
  · rw [Nat.min_eq_right (by omega)] at hL;subst hL;have hf':(n:Int) < (k:Int)+1+m:=(by omega);go_enter Tryz.func245,Tryz.ntmps245;go_wp2_with fail;go_ret;refine ⟨_,2,rfl,?_,(fun ad h=>by injection h with h;subst h;simp),((Fr.refl _ _ _).alloc (Nat.le_refl _) _).alloc (by simp) _⟩;have h:=reads_new2 (w.alloc (.cells #[.int .i64 15,.int .i64 m] 217)) (k+1) n;simpa using h
 ·
  rw [if_neg h0,if_neg h16,if_neg h15] at hL;subst hL;have e0:(o == 0)=false:=(by simpa using h0);have e16:(o == 16)=false:=(by simpa using h16);have e15:(o == 15)=false:=(by simpa using h15);clear r5 r6 h0 h16 h15
  by_cases hf:(k:Int)+1+a<=n
  all_goals
   go_enter Tryz.func245,Tryz.ntmps245;go_wp2_with fail;go_ret;refine ⟨_,1,rfl,?_,(fun ad h=>by injection h with h;subst h;simp),((Fr.refl _ _ _).alloc (Nat.le_refl _) _).alloc (by simp) _⟩;have h:=reads_new1 (w.alloc (.cells #[.int .i64 o,.int .i64 a] 217)) (k+1);simpa using h
theorem nextsF_gt {n k:Nat} {i:Int × Int} (hk:k < n) (hi:rightB i=true):∀ t ∈ nextsF n k i,k < t/\t<=n:=by
 intro t ht;have h:=nextsF_le hk i t ht;obtain ⟨_,_,_,_,r5,_⟩:=right_range hi;unfold nextsF farF at ht
 split at ht
 · cases ht
 ·
  split at ht
  · rename_i h16;have:=r5 (.inr h16);simp at ht;omega
  ·
   split at ht
   · rename_i h15;have:=r5 (.inl h15);simp at ht;omega
   · simp at ht;omega
theorem nextsF_len (n k:Nat) (i:Int × Int):(nextsF n k i).length<=2:=by
 unfold nextsF
 split
 · simp
 ·
  split
  · simp
  · split <;> simp
theorem come_D {n t:Nat} {s s':CS} {d e:Int} (h:comeF n s t d e=some s') (k:Nat) (hk:k ≠ t):s'.D k=s.D k:=by
 unfold comeF at h
 split at h
 · cases h
 ·
  split at h
  · injection h with h;subst h;rfl
  ·
   split at h
   · cases h
   ·
    injection h with h;subst h
    simp only [updC];rw [if_neg hk]
theorem comes_drop {n:Nat} {d e:Int} {L:List Nat} {j t:Nat} (s:CS) (h:L[j]?=some t):comesF n d e (L.drop j) s=match comeF n s t d e with
  | none=>none
  | some s'=>comesF n d e (L.drop (j+1)) s':=by
 have hj:j < L.length:=by
  rcases Nat.lt_or_ge j L.length with h' | h'
  · exact h'
  · rw [List.getElem?_eq_none h'] at h;cases h
 rw [List.getElem?_eq_getElem hj] at h;injection h with h
 rw [List.drop_eq_getElem_cons hj,h];rfl
theorem WMem.setU0 {gw gd ge gm n:Nat} {A:Option Addr} {c:Nat} {s:CS} {w:World} (h:WMem gw gd ge gm n A c s w):WMem gw gd ge gm n A c { s with u0:=true } (w.setCell ⟨gw,3,none⟩ (.bool true)) :=
 ⟨h.blk.set_ 3 _,h.dep.far (p:=⟨gw,3,none⟩) h.ne1 _,h.ems.far (p:=⟨gw,3,none⟩) h.ne2 _,h.map.far (p:=⟨gw,3,none⟩) (h.map.ne h.blk) _,h.ne1,h.ne2,h.ne3⟩
theorem WMem.setU1 {gw gd ge gm n:Nat} {A:Option Addr} {c:Nat} {s:CS} {w:World} (h:WMem gw gd ge gm n A c s w):WMem gw gd ge gm n A c { s with u1:=true } (w.setCell ⟨gw,4,none⟩ (.bool true)) :=
 ⟨h.blk.set_ 4 _,h.dep.far (p:=⟨gw,4,none⟩) h.ne1 _,h.ems.far (p:=⟨gw,4,none⟩) h.ne2 _,h.map.far (p:=⟨gw,4,none⟩) (h.map.ne h.blk) _,h.ne1,h.ne2,h.ne3⟩
def StepOut (gw gd ge gm n:Nat) (A:Option Addr) (c:Nat) (r:Option CS) (w:World) (e:Ending) (w':World):Prop :=
 e=.returned (.bool r.isSome)/\(∀ s',r=some s'->WMem gw gd ge gm n A c s' w')/\Fr w.heap.size [gw,gd,ge] w w'
theorem step_any (gw gd ge gm:Nat) (A:Option Addr) (c B:Nat) (l:List (Int × Int)) (s:CS) (k:Nat) (i:Int × Int) (w:World) (hr:Reads w B 2 A l.length (cellsI l)) (hB:B<=gw/\B<=gd/\B<=ge) (hn:l.length<=24) (hx:l[k]?=some i) (hi:rightB i=true)
  (hI:CInv l.length s) (p:Nat->Int × Int) (hp:p k=i) (hm:WMem gw gd ge gm l.length A c s w) :
  Calls Tryz.prog 236 #[.pointer (some ⟨gw,0,none⟩),.int .i64 k] w (StepOut gw gd ge gm l.length A c (stepF l.length p s k) w):=by
 have hkl:k < l.length:=by
  rcases Nat.lt_or_ge k l.length with h' | h'
  · exact h'
  · rw [List.getElem?_eq_none h'] at hx;cases hx
 obtain ⟨r,hrr⟩:=nm (stepF l.length p s k);rw [<- hrr];unfold stepF at hrr;rw [hp] at hrr;have hBw:B<=w.heap.size:=Nat.le_trans hB.1 (Nat.le_of_lt hm.blk.lt);have NX:=zh (fun (w':World) (hw:Fr w.heap.size [gw,gd,ge] w w')=>next_any A c B l k i w' (hr.fr hw hBw (by simp;omega)) (Nat.le_trans hBw hw.size) hn hx hi);obtain ⟨b,off,hA,hb,c1,c2⟩:=reads_ins hr hx;obtain ⟨r1,r2,r3,r4,r5,r6⟩:=right_range hi;have GT:=zh (nextsF_gt hkl hi);obtain ⟨o,a⟩:=i;obtain ⟨n,hnl⟩:=nm (l.length);rw [<- hnl] at hn hkl hm hrr NX GT hI ⊢;obtain ⟨t1,t2⟩:=takesF_range o;obtain ⟨t3,t4⟩:=leavesF_range o;have HRR:=zh hrr;simp only at c1 c2 r1 r2 r3 r4 r5 r6 HRR;obtain ⟨d1,d2⟩:=hI.d k;obtain ⟨e1,e2⟩:=hI.e k;have HI:=zh hI;have HM:=zh hm;have hbw:b < w.heap.size:=(by omega);have hgw:=hm.blk.lt;have hgd:=hm.dep.lt;have hge:=hm.ems.lt;have hgm:=hm.map.lt;have q5:=hm.blk.cell 5;simp at q5;have HLK:=zh (fun (w':World) (h:EffMap w' gm)=>eff_look h o ⟨r1,r2⟩);have hki:(k:Int) < (n:Int):=(by omega);clear hr hx hi hnl hb hp hrr hm hI;rw [hA] at q5;clear hA;go_enter Tryz.func236,Tryz.ntmps236;go_wp2_with fail;have B5:=Blk.new w 217 #[.int .i64 o,.int .i64 a];have f1:=(Fr.refl w.heap.size [] w).alloc (Nat.le_refl _) (.cells #[.int .i64 o,.int .i64 a] 217);have hs1:(w.alloc (.cells #[.int .i64 o,.int .i64 a] 217)).heap.size=w.heap.size+1:=(by simp);have M1:=zh (HM.out.keep f1);obtain ⟨w1,hw1⟩:=nm (w.alloc (.cells #[.int .i64 o,.int .i64 a] 217));rw [<- hw1] at B5 f1 hs1 M1 ⊢;have F1:=zh f1;have HS1:=zh hs1;have B5':=zh B5;have q7:=M1.out.blk.cell 7;have p0:=B5.cell 0;simp at q7 p0;have hlk1:=HLK.out w1.drew M1.out.map;have hlk2:=HLK.out ((w1.alloc (.cells #[.int .i64 0,.int .i64 0] 377)).drew) ((Below.heap_alloc _ _ _ M1.out.map.lt).trans M1.out.map);have h5lt:w.heap.size < w1.heap.size:=B5.lt;have hgw1:=M1.out.blk.lt;clear B5 f1 hs1 hw1 c1 c2 q5 HM HLK;generalize hg5:w.heap.size=g5 at *;have HG5:=zh hg5;clear hg5;go_cut [6] (fun s6 wx=>s6=.pointer (some ⟨w1.heap.size,0,none⟩)/\wx=(w1.alloc (.cells #[.int .i64 (takesF o),.int .i64 (leavesF o)] 377)).drew)
 case first =>
  go_region
  all_goals
   go_wp2_with fail;go_meet;exact ⟨rfl,rfl⟩
 case rest =>
  obtain ⟨rfl,rfl⟩:=hcut;have B6:=(Blk.new w1 377 #[.int .i64 (takesF o),.int .i64 (leavesF o)]).drew;have f2:=((Fr.refl w1.heap.size [] w1).alloc (Nat.le_refl _) (.cells #[.int .i64 (takesF o),.int .i64 (leavesF o)] 377)).drew;have M2:=zh (M1.out.keep f2);have B52:=zh (B5'.out.fr f2 B5'.out.lt (by simp));have F2:=zh (F1.out.trans (f2.mono (B':=g5) (L':=[]) (Nat.le_of_lt h5lt) (by simp)));clear hlk1 hlk2 q7 p0 M1 F1 B5' f2;generalize (w1.alloc (.cells #[.int .i64 (takesF o),.int .i64 (leavesF o)] 377)).drew=w2 at *;have h65:g5 < w1.heap.size:=h5lt;generalize w1.heap.size=g6 at *;have HB6:=zh B6;have u0:=B6.cell 0;have x0:=M2.out.blk.cell 0;have xd:=(M2.out.dep.cell k).trans (intsA_get _ hkl);simp at u0 x0;clear B6;generalize takesF o=tk at *;generalize leavesF o=lv at *
  by_cases hlt:s.D k < tk
  ·
   obtain rfl:r=none:=by rw [HRR.out,if_pos hlt]
   have hd:decide (s.D k < tk)=true:=decide_eq_true hlt;go_wp2_with fail;go_quiet (fail);go_wp2_with fail;go_ret;exact ⟨rfl,(fun _ h=>by cases h),by rw [HG5.out];exact (F2.out.drewN nq).mono (Nat.le_refl _) (by simp)⟩
  have hd:decide (s.D k < tk)=false:=decide_eq_false hlt;have hrr:=HRR.out;rw [if_neg hlt] at hrr;have HR2:=zh hrr;clear hrr HRR;go_wp2_with fail;go_quiet (fail);have M3:=zh (M2.out.drewN nq);have B53:=zh (B52.out.drewN nq);have B63:=zh (HB6.out.drewN nq);have F3:=zh ((F2.out.drewN nq).mono (B':=g5) (L':=[gw,gd,ge]) (Nat.le_refl _) (by simp));clear M2 B52 HB6 F2 u0 x0 xd hd;generalize w2.drewN nq=w3 at *;have y6:=M3.out.blk.cell 6;have ye:=(M3.out.ems.cell k).trans (intsA_get _ hkl);have y0:=B53.out.cell 0;have y1:=B53.out.cell 1;simp at y6 y0 y1;go_upto_block 0 with fail;go_cut [7] (fun s7 wx=>s7=.int .i64 (emF s k (o,a))/\Hid (WMem gw gd ge gm n A c (useF s (o,a)) wx)/\Hid (Blk wx g6 377 #[.int .i64 tk,.int .i64 lv])/\Hid (Fr g5 [gw,gd,ge] w wx))
  case first =>
   by_cases h14:o=14
   · subst h14;go_wp2_with fail;go_meet;exact ⟨by simp [emF],(by unfold useF;rw [if_neg (by simp)];exact M3.out),B63.out,F3.out⟩
   by_cases h45:o=4 \/ o=5
   ·
    have hem:emF s k (o,a)=s.E k:=by unfold emF;rw [if_neg (by simpa using h14)]
    obtain ⟨a1,a2⟩:=r6 h45;have HEM:=zh hem;clear r5 r6 hem h14;have z3:=M3.out.blk.frozen 3;have z4:=M3.out.blk.frozen 4;have v3:=M3.out.blk.cell 3;have v4:=M3.out.blk.cell 4;simp at v3 v4;have ha:a=0 \/ a=1:=(by omega)
    rcases ha with rfl | rfl <;> rcases h45 with rfl | rfl
    all_goals
     go_upto_region 11 with fail;go_region
     all_goals
      go_wp2_with fail;go_meet
      first
       | exact ⟨by rw [HEM.out],M3.out.setU0.drew,(B63.out.far (p:=⟨gw,3,none⟩) (by show g6 ≠ gw;omega) _).drew,(F3.out.setCell (p:=⟨gw,3,none⟩) (.inr (by simp)) _).drew⟩
       | exact ⟨by rw [HEM.out],M3.out.setU1.drew,(B63.out.far (p:=⟨gw,4,none⟩) (by show g6 ≠ gw;omega) _).drew,(F3.out.setCell (p:=⟨gw,4,none⟩) (.inr (by simp)) _).drew⟩
   ·
    have e14:(o == 14)=false:=by simpa using h14
    have e4:(o == 4)=false:=(by simp;omega);have e5:(o == 5)=false:=(by simp;omega);have HEM:=zh (show emF s k (o,a)=s.E k by unfold emF;rw [if_neg (by simpa using h14)]);have HUS:=zh (show useF s (o,a)=s by unfold useF;rw [if_neg (by simpa using h45)]);clear r5 r6 h14 h45;go_wp2_with fail;go_meet;exact ⟨by rw [HEM.out],(by rw [HUS.out];exact M3.out),B63.out,F3.out⟩
  case rest =>
   obtain ⟨rfl,M4,B64,F4⟩:=hcut;have y5:=M4.out.blk.cell 5;simp at y5;have HI4:=zh (HI.out.use (o,a));have HD4:Hid ((useF s (o,a)).D k=s.D k):=(by rw [use_D];exact (rfl:s.D k=s.D k));have hem:=emF_range HI.out k (o,a);generalize emF s k (o,a)=em at *;generalize useF s (o,a)=s4 at *;clear M3 B53 B63 F3 HI y0 y1 y6 ye;go_wp2_with fail;refine (NX.out wc F4.out).mono ?_;rintro e w5 ⟨AL,cL,rfl,RL,apL,fL⟩;have hL2:=nextsF_len n k (o,a);generalize nextsF n k (o,a)=L at *;obtain ⟨N,hN⟩:=nm (L.length);rw [<- hN] at RL hL2 ⊢;have HN:=zh hN;have hgc:g6 < wc.heap.size:=B64.out.lt;have M5:=zh (M4.out.keep fL);have B65:=zh (B64.out.fr fL B64.out.lt (by simp));have F5:=zh (F4.out.trans (fL.mono (B':=g5) (L':=[gw,gd,ge]) (by omega) (by simp)));have HRL:=zh RL;have HAP:=zh apL;have hs5:wc.heap.size<=w5.heap.size:=fL.size;clear hN RL apL fL M4 B64 F4 y5 NX;go_wp2_with fail;go_loopw [65] (fun i wr=>∃ (j:Nat) (sj:CS),j<=N/\i=.int .i64 j/\Hid (comesF n (s.D k - tk+lv) em L s4=comesF n (s.D k - tk+lv) em (L.drop j) sj)/\Hid (WMem gw gd ge gm n A c sj wr)/\Hid (sj.D k=s.D k)/\Hid (Blk wr g6 377 #[.int .i64 tk,.int .i64 lv])/\Hid (Fr g5 [gw,gd,ge] w wr)/\Hid (Fr w5.heap.size [gw,gd,ge] w5 wr)) (fun i _=>N - (intOf i).toNat)
   case atStart=>exact ⟨0,s4,by omega,rfl,rfl,M5,HD4,B65,F5,Fr.refl _ _ _⟩
   case round =>
    clear M5 B65 F5;obtain ⟨j,sj,hj,rfl,HQ,MR,DR,BR,FR,FW⟩:=hrel
    by_cases hjN:j < N
    ·
     obtain ⟨bl,ol,u,hAL,hbl,hu,hcu⟩:=HRL.out.one hjN;obtain ⟨t,ht,rfl⟩:∃ t:Nat,L[j]?=some t/\Value.int .i64 t=u:=by simpa using hu
     have hap:=HAP.out ⟨bl,ol,none⟩ hAL;simp only at hap;have hcr:=(FW.out.cell (p:=⟨bl,ol+j,none⟩) hbl (by simp;omega)).trans hcu;obtain ⟨g1,g2⟩:=GT.out t (List.mem_of_getElem? ht);have HST:=zh (comes_drop (d:=s.D k - tk+lv) (e:=em) (n:=n) sj ht);have x0:=MR.out.blk.cell 0;have xd:=(MR.out.dep.cell k).trans (intsA_get _ hkl);rw [DR.out] at xd;have u0:=BR.out.cell 0;have u1:=BR.out.cell 1;simp at x0 u0 u1;have hw1:IntKind.i64.wrap (s.D k - tk)=s.D k - tk:=(by rw [IntKind.wrap_i64];omega);have hw2:IntKind.i64.wrap (s.D k - tk+lv)=s.D k - tk+lv:=(by rw [IntKind.wrap_i64];omega);rw [hAL];clear ht hu hcu hap;go_upto_region 15 with fail;refine wp_region_still_tail 17 (by kernel_rfl) (by kernel_rfl) ?_;simp only [List.take_succ_cons,List.take_zero,List.drop_succ_cons,List.drop_zero]
     repeat still_step
     refine wpStill_nil ?_
     change wpList _ _ _ _ _ wr.drew
     go_wp2_with fail;have hce:=come_any gw gd ge gm n A c sj t (s.D k - tk+lv) em wr.drew hn g2 MR.out.drew;have FW':=zh (FW.out.drew);have FR':=zh (FR.out.drew);have hsz:=FR.out.size;have BR':=zh (BR.out.drew);have hgr:g6 < wr.heap.size:=BR.out.lt;clear x0 xd u0 u1 hcr FW FR BR MR hw1 hw2
     rcases (show comeF n sj t (s.D k - tk+lv) em=none \/ ∃ s',comeF n sj t (s.D k - tk+lv) em=some s' by cases comeF n sj t (s.D k - tk+lv) em;exact .inl rfl;exact .inr ⟨_,rfl⟩) with hq | ⟨s',hq⟩
     · rw [hq] at hce;have HQQ:=zh hq;clear hq;refine hce.mono ?_;rintro e w6 ⟨rfl,hms,f6⟩;have F6:=zh (FR'.out.trans (f6.mono (B':=g5) (L':=[gw,gd,ge]) (by show g5<=wr.heap.size;omega) (fun q hq _=>hq)));clear f6 hms hce;go_wp2_with fail;go_ret;have hrn:r=none:=(by rw [HR2.out,HQ.out,HST.out,HQQ.out]);exact ⟨by rw [hrn];rfl,(fun _ h=>by rw [hrn] at h;cases h),by rw [HG5.out];exact F6.out⟩
     ·
      rw [hq] at hce;have HQQ:=zh hq;clear hq;refine hce.mono ?_;rintro e w6 ⟨rfl,hms,f6⟩;have F6:=zh (FR'.out.trans (f6.mono (B':=g5) (L':=[gw,gd,ge]) (by show g5<=wr.heap.size;omega) (fun q hq _=>hq)));have W6:=zh (FW'.out.trans (f6.mono (B':=w5.heap.size) (L':=[gw,gd,ge]) FW'.out.size (fun q hq _=>hq)));have B6:=zh (BR'.out.fr f6 BR'.out.lt (by simp;omega));have MS:=zh (hms s' rfl);clear f6 hms hce;go_wp2_with fail;go_roundw
      case rel =>
       refine ⟨j+1,s',by omega,by go_num,?_,MS,?_,B6,F6,W6⟩
       ·
        show _=_
        rw [HQ.out,HST.out,HQQ.out]
       ·
        show _=_
        rw [come_D HQQ.out k (by omega)];exact DR.out
      case measure=>simp [intOf];omega
    ·
     obtain rfl:N=j:=by omega
     have hrn:r=some sj:=by
      rw [HR2.out,HQ.out,List.drop_of_length_le (by rw [HN.out];exact Nat.le_refl _)];rfl
     have HRN:=zh hrn;clear hrn;go_wp2_with fail;go_ret;exact ⟨by rw [HRN.out];rfl,(fun s'' h=>by rw [HRN.out] at h;injection h with h;subst h;exact MR.out),by rw [HG5.out];exact FR.out⟩
abbrev C8 (r:Nat->Int):Array Value:=#[.int .i64 (r 0),.int .i64 (r 1),.int .i64 (r 2),.int .i64 (r 3),.int .i64 (r 4),.int .i64 (r 5),.int .i64 (r 6),.int .i64 (r 7)]
abbrev A8 (r:Nat->Int):Value:=.agg (C8 r)
theorem C8_get (r:Nat->Int) {k:Nat} (h:k < 8):(C8 r)[k]?=some (.int .i64 (r k)):=by
 match k,h with
 | 0,_ | 1,_ | 2,_ | 3,_ | 4,_ | 5,_ | 6,_ | 7,_=>rfl
theorem intinfo:(Tryz.prog.info? 3).map (fun i=>(i.zero,i.size,i.bytes))=some (some (.int .i64 0),1,8):=by kernel_rfl
theorem results_cell_row_tmp {P:Program} {fn:Func} {p q:Tmp} {ty:TypeId} (h:fn.results = #[.cell p ty,.tmp q]) (tmps:Array Value) (w:World) (g:Nat) (t:TypeId) (cs:Array Value) (fr:Nat × Nat) (d:TypeDesc)
  (hp:tmps.getD p undef=.pointer (some ⟨g,0,none⟩)) (hg:w.heap[g]?=some (.cells cs t fr))
  (hu:P.underlying ty=some d) (hd:(match d with | .struct _ | .array _ _=>true | _=>false)=true) (hi:(P.info? ty).map (·.size)=some cs.size) :
  (results fn tmps).run P w=.ok (.tuple #[.agg cs,tmps.getD q undef]) w:=by
 have hp':tmps[p]?.getD undef=.pointer (some ⟨g,0,none⟩):=(by simpa using hp);simp [results,h,hp',asAddr,run_loadVar_row w g t ty cs fr d hg hu hd hi]
def pF (l:List (Int × Int)) (k:Nat):Int × Int:=l.getD k (0,0)
def chkL (l:List (Int × Int)):Option CS:=if fitsB l=true then checkF l.length (pF l) l.length else none
def ChkOut (l:List (Int × Int)) (w:World) (e:Ending) (w':World):Prop :=
 (∀ s,chkL l=some s->∃ gd,e=.returned (.tuple #[.agg #[.slice (some ⟨gd,0,none⟩) l.length l.length,.int .i64 s.mx,.int .i64 s.em,.bool s.u0,.bool s.u1],.int .i64 0])/\w.heap.size<=gd/\Blk w' gd 3 (intsA l.length s.D)) /\
 (chkL l=none->e=.returned (.tuple #[.agg #[.slice none 0 0,.int .i64 0,.int .i64 0,.bool false,.bool false],.int .i64 9]))/\Fr w.heap.size [] w w'
theorem checkF_none {n:Nat} {p:Nat->Int × Int} {k:Nat} (h:checkF n p k=none):∀ d,checkF n p (k+d)=none
 | 0=>h
 | d+1=>by
  show checkF n p (k+d+1)=none
  unfold checkF;rw [checkF_none h d]
abbrev repC (v:Value) (a b:Int) (x y:Bool):Array Value:=#[v,.int .i64 a,.int .i64 b,.bool x,.bool y]
def set5 (w:World) (g:Nat) (v:Value) (a b:Int) (x y:Bool):World :=
 ((((w.setCell ⟨g,0,none⟩ v).setCell ⟨g,1,none⟩ (.int .i64 a)).setCell ⟨g,2,none⟩ (.int .i64 b)).setCell ⟨g,3,none⟩ (.bool x)).setCell ⟨g,4,none⟩ (.bool y)
theorem blk_set5 {w:World} {g t:Nat} {v0:Value} {a0 b0:Int} {x0 y0:Bool} (h:Blk w g t (repC v0 a0 b0 x0 y0)) (v:Value) (a b:Int) (x y:Bool):Blk (set5 w g v a b x y) g t (repC v a b x y) :=
 ((((h.set_ 0 v).set_ 1 (.int .i64 a)).set_ 2 (.int .i64 b)).set_ 3 (.bool x)).set_ 4 (.bool y)
theorem fr_set5 {B g:Nat} {L:List Nat} {a0 w:World} (h:Fr B L a0 w) (hg:B<=g \/ g ∈ L) (v:Value) (a b:Int) (x y:Bool):Fr B L a0 (set5 w g v a b x y) :=
 ((((h.setCell (p:=⟨g,0,none⟩) hg _).setCell (p:=⟨g,1,none⟩) hg _).setCell (p:=⟨g,2,none⟩) hg _).setCell (p:=⟨g,3,none⟩) hg _).setCell (p:=⟨g,4,none⟩) hg _
def freshS:CS:=⟨fun _ => -1,fun _=>0,0,0,false,false⟩
theorem come_start (n:Nat):comeF n freshS 0 0 0=some (startF n):=by
 unfold comeF;rw [if_neg (by omega)]
 by_cases h:0=n
 · rw [if_pos h];subst h;simp [freshS,startF]
 ·
  rw [if_neg h,if_neg (by simp [freshS])];have h':¬ n=0:=fun e=>h e.symm;simp only [freshS,startF]
  congr 2
  · funext j;simp [h',updC]
  · funext j;simp [updC]
theorem heap3 (w:World) (a b c:Obj):(((w.alloc a).alloc b).alloc c).drew.heap[w.heap.size]?=some a/\(((w.alloc a).alloc b).alloc c).drew.heap[w.heap.size+1]?=some b/\(((w.alloc a).alloc b).alloc c).drew.heap[w.heap.size+2]?=some c/\Fr w.heap.size [] w (((w.alloc a).alloc b).alloc c).drew:=by
 have e1:(w.alloc a).heap.size=w.heap.size+1:=(by simp);have e2:((w.alloc a).alloc b).heap.size=w.heap.size+2:=(by simp);refine ⟨?_,?_,?_,(((((Fr.refl _ _ _).alloc (Nat.le_refl _) _).alloc (by simp) _).alloc (by simp;omega) _).drew)⟩
 ·
  show (((w.alloc a).alloc b).alloc c).heap[w.heap.size]?=some a
  rw [Below.heap_alloc _ _ _ (by rw [e2];omega),Below.heap_alloc _ _ _ (by rw [e1];omega)];exact heap_alloc_new w a
 ·
  show (((w.alloc a).alloc b).alloc c).heap[w.heap.size+1]?=some b
  rw [Below.heap_alloc _ _ _ (by rw [e2];omega),<- e1];exact heap_alloc_new (w.alloc a) b
 ·
  show (((w.alloc a).alloc b).alloc c).heap[w.heap.size+2]?=some c
  rw [<- e2];exact heap_alloc_new ((w.alloc a).alloc b) c
theorem rightB_of {l:List (Int × Int)} (h:fitsB l=true) {k:Nat} {i:Int × Int} (hx:l[k]?=some i):rightB i=true:=by
 unfold fitsB at h;rw [Bool.and_eq_true,List.all_eq_true] at h;exact h.2 i (List.mem_of_getElem? hx)
theorem pF_of {l:List (Int × Int)} {k:Nat} {i:Int × Int} (hx:l[k]?=some i):pF l k=i:=by
 unfold pF;rw [List.getD_eq_getElem?_getD,hx];rfl
theorem check_any (A:Option Addr) (c B:Nat) (l:List (Int × Int)) (w:World) (hr:Reads w B 2 A l.length (cellsI l)) (hB:B<=w.heap.size) (hn:l.length<=maxLen) :
  Calls Tryz.prog 224 #[.slice A l.length c] w (ChkOut l w):=by
 have FT:=zh (fun (w':World) (hw:Fr w.heap.size [] w w')=>fits_any A c B l w' (hr.fr hw hB (by simp)) (Nat.le_trans hB hw.size) hn);have hm:=hn;unfold maxLen at hm;have HR:=zh hr;have FF:=zh (fun (h:fitsB l=true)=>(by unfold fitsB at h;rw [Bool.and_eq_true] at h;exact of_decide_eq_true h.1:l.length<=24));have CL:=zh (show chkL l=if fitsB l=true then checkF l.length (pF l) l.length else none from rfl);clear hr hn;have hfb:=(by cases fitsB l;exact .inr rfl;exact .inl rfl:fitsB l=true \/ fitsB l=false);have f0:=(Fr.refl w.heap.size [] w).alloc (Nat.le_refl _) (.cells (repC (.slice none 0 0) 0 0 false false) 355);have b0:=Blk.new w 355 (repC (.slice none 0 0) 0 0 false false);have hft:=FT.out _ f0
 rcases hfb with hfb | hfb
 case inr =>
  rw [hfb] at hft;have HCL:Hid (chkL l=none):=(by rw [CL.out,hfb];exact (rfl:(none:Option CS)=none));have HFT:=zh hft;clear hft hfb f0 b0;go_enter Tryz.func224,Tryz.ntmps224;go_wp2_with fail;refine HFT.out.mono ?_;rintro e w1 ⟨rfl,f1⟩;have B1:=zh ((Blk.new w 355 (repC (.slice none 0 0) 0 0 false false)).fr f1 (by simp) (by simp));have F1:=zh (((Fr.refl w.heap.size [] w).alloc (Nat.le_refl _) (.cells (repC (.slice none 0 0) 0 0 false false) 355)).trans (f1.mono (B':=w.heap.size) (L':=[]) (by simp) (by simp)));have c0:=B1.out.cell 0;have c1:=B1.out.cell 1;have c2:=B1.out.cell 2;have c3:=B1.out.cell 3;have c4:=B1.out.cell 4;have z0:=B1.out.frozen 0;have z1:=B1.out.frozen 1;have z2:=B1.out.frozen 2;have z3:=B1.out.frozen 3;have z4:=B1.out.frozen 4;simp at c0 c1 c2 c3 c4;clear f1;go_wp2_with fail;refine bodyPost_ret (results_cell_row_tmp rfl _ _ w.heap.size 355 (repC (.slice none 0 0) 0 0 false false) (0,0) _ rfl (blk_set5 B1.out _ _ _ _ _) Tryz.underlying355 rfl (by kernel_rfl)) rfl ⟨(fun s h=>by rw [HCL.out] at h;cases h),(fun _=>rfl),fr_set5 F1.out (.inl (Nat.le_refl _)) _ _ _ _ _⟩
 case inl =>
  rw [hfb] at hft;have hn24:=FF.out hfb;have HCL:Hid (chkL l=checkF l.length (pF l) l.length):=(by rw [CL.out,if_pos hfb];exact (rfl:checkF l.length (pF l) l.length=_));have HRB:=zh (fun k i (hx:l[k]?=some i)=>rightB_of hfb hx);have HFT:=zh hft;clear hft hfb f0 b0 FT FF CL;go_enter Tryz.func224,Tryz.ntmps224;go_wp2_with fail;refine HFT.out.mono ?_;rintro e w1 ⟨rfl,f1⟩;have B1:=zh ((Blk.new w 355 (repC (.slice none 0 0) 0 0 false false)).fr f1 (by simp) (by simp));have F1:=zh (((Fr.refl w.heap.size [] w).alloc (Nat.le_refl _) (.cells (repC (.slice none 0 0) 0 0 false false) 355)).trans (f1.mono (B':=w.heap.size) (L':=[]) (by simp) (by simp)));have hr0:w.heap.size < w1.heap.size:=B1.out.lt;obtain ⟨n,hnl⟩:=nm (l.length);have HN:=zh hnl;rw [<- hnl] at hn24 ⊢;have hmk:=fun W=>make_intsA n (by omega) W;clear f1 HFT hnl hm;go_upto_region 3 with fail;go_cut [4] (fun s4 wx=>∃ gw ge gm,s4=.pointer (some ⟨gw,0,none⟩)/\Hid (Blk wx gw 367 #[.slice none 0 0,.int .i64 0,.int .i64 0,.bool false,.bool false,.slice A n c,.slice (some ⟨ge,0,none⟩) n n,.map (some gm)])/\Hid (Blk wx ge 3 (intsA n fun _=>0))/\Hid (EffMap wx gm)/\Hid (Fr w1.heap.size [] w1 wx)/\w1.heap.size<=gw/\w1.heap.size<=ge/\ge ≠ gw)
  case first =>
   go_region_with (first | (go_at_call 233;refine (effects_any _).mono ?_;rintro e w' ⟨rfl,rfl⟩))
   all_goals
    go_wp2_with fail;go_meet
    first
     | exact ⟨_,w1.heap.size,w1.heap.size+1,rfl,(heap3 w1 _ _ _).2.2.1,(heap3 w1 _ _ _).1,(heap3 w1 _ _ _).2.1,(heap3 w1 _ _ _).2.2.2,by omega,by omega,by omega⟩
     | exact ⟨_,w1.heap.size+1,w1.heap.size,rfl,(heap3 w1 _ _ _).2.2.1,(heap3 w1 _ _ _).2.1,(heap3 w1 _ _ _).1,(heap3 w1 _ _ _).2.2.2,by omega,by omega,by omega⟩
  case rest =>
   obtain ⟨gw,ge,gm,rfl,BW,BE,EM,F2,hgw,hge,hne⟩:=hcut;have hw0:w.heap.size < gw:=(by omega);have hcs:w1.heap.size<=wc.heap.size:=F2.out.size;have B2:=zh (B1.out.fr F2.out B1.out.lt (by simp));have FW:=zh (F1.out.trans (F2.out.mono (B':=w.heap.size) (L':=[]) (by omega) (by simp)));clear B1 F1 F2 hmk;go_wp2_with fail;have hrp:=repeat_any (-1) n wc.heap.size hn24 (wc.alloc (.cells #[.int .i64 (-1)] 3)) (by simp) ((Blk.new wc 3 #[.int .i64 (-1)]).cell 0);have fa:=(Fr.refl wc.heap.size [] wc).alloc (Nat.le_refl _) (.cells #[.int .i64 (-1)] 3);have hgd0:(wc.alloc (.cells #[.int .i64 (-1)] 3)).heap.size=wc.heap.size+1:=(by simp);refine hrp.mono ?_;rintro e w3 ⟨rfl,bd,fd⟩;have f3:=zh (fa.trans (fd.mono (B':=wc.heap.size) (L':=[]) (by omega) (by simp)));generalize (wc.alloc (.cells #[.int .i64 (-1)] 3)).heap.size=gd at *;have hgd1:wc.heap.size < gd:=(by omega);clear hgd0;have hgwc:=BW.out.lt;have hgec:=BE.out.lt;have hgmc:=EM.out.lt;have BW3:=zh (BW.out.fr f3.out BW.out.lt (by simp));have BE3:=zh (BE.out.fr f3.out BE.out.lt (by simp));have EM3:=zh (EM.out.fr f3.out EM.out.lt (by simp));have B3:=zh (B2.out.fr f3.out B2.out.lt (by simp));have FW3:=zh (FW.out.trans (f3.out.mono (B':=w.heap.size) (L':=[]) (by omega) (by simp)));have BD3:=zh bd;have c0:=BW3.out.cell 0;have z0:=BW3.out.frozen 0;simp at c0;clear BW BE EM B2 FW fa fd bd hrp f3;go_upto_region 5 with fail
   have M4:Hid (WMem gw gd ge gm n A c freshS (w3.setCell ⟨gw,0,none⟩ (.slice (some ⟨gd,0,none⟩) n n))) :=
    ⟨BW3.out.set_ 0 _,BD3.out.far (p:=⟨gw,0,none⟩) (by show gd ≠ gw;omega) _,BE3.out.far (p:=⟨gw,0,none⟩) (by show ge ≠ gw;omega) _,EM3.out.far (p:=⟨gw,0,none⟩) (EM3.out.ne BW3.out) _,by omega,hne,by omega⟩
   have B4:=zh (B3.out.far (p:=⟨gw,0,none⟩) (by show w.heap.size ≠ gw;omega) (.slice (some ⟨gd,0,none⟩) n n));have FW4:=zh (FW3.out.setCell (p:=⟨gw,0,none⟩) (.inl (by show w.heap.size<=gw;omega)) (.slice (some ⟨gd,0,none⟩) n n));have hgw3:=BW3.out.lt;have hgd3:=BD3.out.lt;have hge3:=BE3.out.lt;have hs4:(w3.setCell ⟨gw,0,none⟩ (.slice (some ⟨gd,0,none⟩) n n)).heap.size=w3.heap.size:=(by simp [World.setCell]);generalize w3.setCell ⟨gw,0,none⟩ (.slice (some ⟨gd,0,none⟩) n n)=w4 at *;clear BW3 BD3 BE3 EM3 B3 FW3 c0 z0 hgwc hgec hgmc;go_wp2_with fail;have hce:=come_any gw gd ge gm n A c freshS 0 0 0 w4 hn24 (Nat.zero_le _) M4.out;rw [come_start,show ((0:Nat):Int)=0 from rfl] at hce;refine hce.mono ?_;rintro e w5 ⟨rfl,hms,f5⟩;have M5:=zh (hms _ rfl);have B5:=zh (B4.out.fr f5 B4.out.lt (by simp;omega));have FW5:=zh (FW4.out.trans (f5.mono (B':=w.heap.size) (L':=[]) FW4.out.size (by simp;omega)));clear hms f5 hce M4 B4 FW4 hs4;have hgd0w:w.heap.size < gd:=(by omega);have hge0:w.heap.size < ge:=(by omega);clear hgw3 hgd3 hge3 hgd1 hcs hgw;go_wp2_with fail;go_loopw [29] (fun i wr=>∃ (k:Nat) (sk:CS),k<=n/\i=.int .i64 k/\Hid (checkF n (pF l) k=some sk)/\Hid (WMem gw gd ge gm n A c sk wr)/\Hid (Blk wr w.heap.size 355 (repC (.slice none 0 0) 0 0 false false))/\Hid (Fr w.heap.size [] w wr)) (fun i _=>n - (intOf i).toNat)
   case atStart=>exact ⟨0,startF n,Nat.zero_le _,rfl,rfl,M5,B5,FW5⟩
   case round =>
    clear M5 B5 FW5;obtain ⟨k,sk,hk,rfl,HK,MR,BR,FR⟩:=hrel
    by_cases hlt:k < n
    ·
     have hki:(k:Int) < (n:Int):=by omega
     obtain ⟨i,hx⟩:∃ i,l[k]?=some i:=⟨_,List.getElem?_eq_getElem (by rw [<- HN.out];exact hlt)⟩;have I:=checkF_inv hk HK.out;have x0:=MR.out.blk.cell 0;have xd:=(MR.out.dep.cell k).trans (intsA_get _ hlt);simp at x0
     have HNX := zh (show checkF n (pF l) (k + 1) = if sk.D k = -1 then some sk else stepF n (pF l) sk k by
      show (match checkF n (pF l) k with | none=>none | some s=>if s.D k = -1 then some s else stepF n (pF l) s k)=_
      rw [HK.out])
     by_cases hd:sk.D k = -1
     ·
      rw [hd] at xd;rw [if_pos hd] at HNX;clear I hx hd;go_wp2_with fail;go_roundw
      case rel=>exact ⟨k+1,sk,by omega,by go_num,HNX,MR,BR,FR⟩
      case measure=>simp [intOf];omega
     ·
      rw [if_neg hd] at HNX;have hb1:(sk.D k != -1)=true:=(by simpa using hd);have hre:=HR.out.fr FR.out hB (by simp);have hst:=step_any gw gd ge gm A c B l sk k i wr hre ⟨by omega,by omega,by omega⟩ (by rw [<- HN.out];exact hn24) hx (HRB.out k i hx) (by rw [<- HN.out];exact I) (pF l) (pF_of hx) (by rw [<- HN.out];exact MR.out);rw [<- HN.out] at hst
      rcases (show stepF n (pF l) sk k=none \/ ∃ s',stepF n (pF l) sk k=some s' by cases stepF n (pF l) sk k;exact .inl rfl;exact .inr ⟨_,rfl⟩) with hq | ⟨s',hq⟩
      ·
       rw [hq] at hst HNX;have HST:=zh hst
       have hcn:chkL l=none:=by
        have h:=checkF_none HNX.out (n - (k+1));rw [show k+1+(n - (k+1))=n by omega] at h;rw [HCL.out,<- HN.out];exact h
       have HCN:=zh hcn;clear hq hst hcn hre hx I;go_wp2_with fail;refine HST.out.mono ?_;rintro e w6 ⟨rfl,hms,f6⟩;have B6:=zh (BR.out.fr f6 BR.out.lt (by simp;omega));have F6:=zh (FR.out.trans (f6.mono (B':=w.heap.size) (L':=[]) FR.out.size (by simp;omega)));have c0:=B6.out.cell 0;have c1:=B6.out.cell 1;have c2:=B6.out.cell 2;have c3:=B6.out.cell 3;have c4:=B6.out.cell 4;have z0:=B6.out.frozen 0;have z1:=B6.out.frozen 1;have z2:=B6.out.frozen 2;have z3:=B6.out.frozen 3;have z4:=B6.out.frozen 4;simp at c0 c1 c2 c3 c4;clear f6 hms HST;go_wp2_with fail;refine bodyPost_ret (results_cell_row_tmp rfl _ _ w.heap.size 355 (repC (.slice none 0 0) 0 0 false false) (0,0) _ rfl (blk_set5 B6.out _ _ _ _ _) Tryz.underlying355 rfl (by kernel_rfl)) rfl ⟨(fun s h=>by rw [HCN.out] at h;cases h),(fun _=>rfl),fr_set5 F6.out (.inl (Nat.le_refl _)) _ _ _ _ _⟩
      ·
       rw [hq] at hst HNX;have HST:=zh hst;clear hq hst hre hx I;go_wp2_with fail;refine HST.out.mono ?_;rintro e w6 ⟨rfl,hms,f6⟩;have B6:=zh (BR.out.fr f6 BR.out.lt (by simp;omega));have F6:=zh (FR.out.trans (f6.mono (B':=w.heap.size) (L':=[]) FR.out.size (by simp;omega)));have M6:=zh (hms s' rfl);clear f6 hms HST;go_wp2_with fail;go_roundw
       case rel=>exact ⟨k+1,s',by omega,by go_num,HNX,M6,B6,F6⟩
       case measure=>simp [intOf];omega
    ·
     obtain rfl:n=k:=by omega
     have hcs:chkL l=some sk:=(by rw [HCL.out,<- HN.out];exact HK.out);have HCS:=zh hcs;have c0:=BR.out.cell 0;have c1:=BR.out.cell 1;have c2:=BR.out.cell 2;have c3:=BR.out.cell 3;have c4:=BR.out.cell 4;have z0:=BR.out.frozen 0;have z1:=BR.out.frozen 1;have z2:=BR.out.frozen 2;have z3:=BR.out.frozen 3;have z4:=BR.out.frozen 4;have v0:=MR.out.blk.cell 0;have v1:=MR.out.blk.cell 1;have v2:=MR.out.blk.cell 2;have v3:=MR.out.blk.cell 3;have v4:=MR.out.blk.cell 4;simp at c0 c1 c2 c3 c4 v0 v1 v2 v3 v4;clear hcs;go_wp2_with fail;refine bodyPost_ret (results_cell_row_tmp rfl _ _ w.heap.size 355 (repC (.slice (some ⟨gd,0,none⟩) n n) sk.mx sk.em sk.u0 sk.u1) (0,0) _ rfl (blk_set5 BR.out _ _ _ _ _) Tryz.underlying355 rfl (by kernel_rfl)) rfl ⟨(fun s h => ?_),(fun h=>by rw [HCS.out] at h;cases h),fr_set5 FR.out (.inl (Nat.le_refl _)) _ _ _ _ _⟩;rw [HCS.out] at h;injection h with h
     subst h;refine ⟨gd,by rw [HN.out];rfl,Nat.le_of_lt hgd0w,?_⟩;rw [<- HN.out];have hg:∀ j,gd ≠ (⟨w.heap.size,j,none⟩:Addr).block:=fun j=>by show gd ≠ w.heap.size;omega
     exact ((((MR.out.dep.far (hg 0) _).far (hg 1) _).far (hg 2) _).far (hg 3) _).far (hg 4) _
abbrev repV (gd n:Nat) (s:CS):Array Value:=#[.slice (some ⟨gd,0,none⟩) n n,.int .i64 s.mx,.int .i64 s.em,.bool s.u0,.bool s.u1]
def ChkYes (n:Nat) (s:CS) (w:World) (e:Ending) (w':World):Prop :=
 ∃ gd,e=.returned (.tuple #[.agg (repV gd n s),.int .i64 0])/\w.heap.size<=gd/\Blk w' gd 3 (intsA n s.D)/\Fr w.heap.size [] w w'
theorem check_yes {A:Option Addr} {c B:Nat} {l:List (Int × Int)} {s:CS} {w:World} (hr:Reads w B 2 A l.length (cellsI l)) (hB:B<=w.heap.size) (hn:l.length<=maxLen) (h:chkL l=some s) :
  Calls Tryz.prog 224 #[.slice A l.length c] w (ChkYes l.length s w) :=
 (check_any A c B l w hr hB hn).mono fun e w' ⟨h1,_,h3⟩=>by
  obtain ⟨gd,a,b,d⟩:=h1 s h;exact ⟨gd,a,b,d,h3⟩
theorem check_no {A:Option Addr} {c B:Nat} {l:List (Int × Int)} {w:World} (hr:Reads w B 2 A l.length (cellsI l)) (hB:B<=w.heap.size) (hn:l.length<=maxLen) (h:chkL l=none) :
  Calls Tryz.prog 224 #[.slice A l.length c] w fun e w'=>e=.returned (.tuple #[.agg #[.slice none 0 0,.int .i64 0,.int .i64 0,.bool false,.bool false],.int .i64 9])/\Fr w.heap.size [] w w' :=
 (check_any A c B l w hr hB hn).mono fun _ _ ⟨_,h2,h3⟩=>⟨h2 h,h3⟩
theorem safe_yes {A:Option Addr} {c B:Nat} {l:List (Int × Int)} {s:CS} {w:World} (hr:Reads w B 2 A l.length (cellsI l)) (hB:B<=w.heap.size) (hn:l.length<=maxLen) (h:chkL l=some s) :
  Calls Tryz.prog 197 #[.slice A l.length c] w fun e w'=>e=.returned (.bool true)/\Fr w.heap.size [] w w':=by
 have H:=zh (check_yes (c:=c) hr hB hn h);clear hr hB hn h;generalize l.length=n at *;go_enter Tryz.func197,Tryz.ntmps197;go_wp2_with fail;refine H.out.mono ?_;rintro e w1 ⟨gd,rfl,_,_,f1⟩;have F1:=zh f1;clear f1;go_wp2_with fail;go_ret;exact ⟨rfl,F1.out.alloc F1.out.size _⟩
theorem safe_no {A:Option Addr} {c B:Nat} {l:List (Int × Int)} {w:World} (hr:Reads w B 2 A l.length (cellsI l)) (hB:B<=w.heap.size) (hn:l.length<=maxLen) (h:chkL l=none) :
  Calls Tryz.prog 197 #[.slice A l.length c] w fun e w'=>e=.returned (.bool false)/\Fr w.heap.size [] w w':=by
 have H:=zh (check_no (c:=c) hr hB hn h);clear hr hB hn h;generalize l.length=n at *;go_enter Tryz.func197,Tryz.ntmps197;go_wp2_with fail;refine H.out.mono ?_;rintro e w1 ⟨rfl,f1⟩;have F1:=zh f1;clear f1;go_wp2_with fail;go_ret;exact ⟨rfl,F1.out.alloc F1.out.size _⟩
def depF (p:Nat->Int × Int):Nat->Int
 | 0=>0
 | k+1=>depF p k+(leavesF (p k).1 - takesF (p k).1)
structure Line (n:Nat) (p:Nat->Int × Int) (k:Nat) (s:CS):Prop where
 d:k < n->s.D k=depF p k
 e:k < n->s.E k=s.em
 fresh:∀ x,k < x->s.D x = -1/\s.E x=0
 pos:0<=depF p k
theorem fitsB_iff {l:List (Int × Int)}:fitsB l=true ↔ l.length<=24 /\ ∀ x ∈ l,rightB x=true:=by
 unfold fitsB;rw [Bool.and_eq_true,List.all_eq_true,decide_eq_true_eq]
theorem chkL_some {l:List (Int × Int)} {s:CS} (h:chkL l=some s):fitsB l=true/\checkF l.length (pF l) l.length=some s:=by
 unfold chkL at h
 by_cases hf:fitsB l=true
 · rw [if_pos hf] at h;exact ⟨hf,h⟩
 · rw [if_neg hf] at h;cases h
end Go.Proofs.YtlejomlppjpchaaGreat
namespace Go.Fb
open Go.RowKit
set_option maxRecDepth 100000
set_option maxHeartbeats 16000000
set_option linter.unusedVariables false
theorem own_prefix {w:World} {base e size n g c:Nat} {xs:List Value} (h:w.ownsRow base e size (.slice (some ⟨g,0,none⟩) n c) n xs) (k:Nat) (hk:k<=n) :
  w.ownsRow base e size (.slice (some ⟨g,0,none⟩) k c) k (xs.take (k * size)):=by
 obtain ⟨hl,hc⟩:=h;have hks:k * size<=n * size:=Nat.mul_le_mul_right _ hk;refine ⟨by rw [List.length_take];omega,.inr ?_⟩
 rcases hc with ⟨hn,_⟩ | ⟨g',cap,cur,hv,hb,hg,h1,h2,h3,h4⟩
 · cases hn
 ·
  injection hv with hv1 hv2 hv3
  injection hv1 with hv1
  injection hv1 with hv1
  subst hv1;subst hv3;refine ⟨g,c,cur,rfl,hb,hg,by omega,h2,h3,?_⟩;rw [<- h4,List.take_take,Nat.min_eq_left hks]
theorem step_fits {P:Program} {w:World} {ops:Array Oper} {o:Oper} {a:Act} {K:Act->World->Prop} {Q:Exit->Act->World->Prop} {E:Prop} (hgd:o.guard=none) (s x:Operand) {t e size bytes:Nat} (T:SliceTy P t e size bytes)
  (ho:o.op=.call { callee:=.builtin .append,args:=#[s,x],argTypes:=#[t,t] })
  (base g k c:Nat) (xs:List Value) (hs:a.eval s=.slice (some ⟨g,0,none⟩) k c) (hown:w.ownsRow base e size (.slice (some ⟨g,0,none⟩) k c) k xs)
  (ad:Addr) (m d:Nat) (news:List Value) (hx:a.eval x=.slice (some ad) m d) (hl:news.length=m * size) (hc:∀ j u,news[j]?=some u->w.cell? (ad.add j)=some u) (h1:∀ u ∈ news,u.oneCell'=true) (hroom:k+m<=c)
  (h:∀ w',w'.ownsRow base e size (.slice (some ⟨g,0,none⟩) (k+m) c) (k+m) (xs ++ news)->w.grownBy w' (some g)->K (a.put o.dst (.slice (some ⟨g,0,none⟩) (k+m) c)) w') :
  if Region.wanted o (yielded ops a.tmps)=true then Oper.wp P o a w K Q else E:=by
 have hw:Region.wanted o (yielded ops a.tmps)=true:=(by simp [Region.wanted,hgd]);rw [if_pos hw];obtain ⟨i,z,hi,hz,hsize,hby,hzs⟩:=T.hi;obtain ⟨w',hrun,h2,h3⟩:=run_append_fits (P:=P) w base t o.type e i size T.ht hi hsize g k c xs hown ad m d news hl hc h1 hroom;unfold Oper.wp;simp [execOp,ho,resolve,invoke,builtin,hs,hx,hrun,Result.andThen];exact h w' h2 h3
theorem run_clear_behind {P:Program} {w:World} {base g c i m:Nat} {xs:List Value} {t e size bytes:Nat} (T:SliceTy P t e size bytes) (z:Value) (hz:(zeroValue e).run P w=.ok z w) (hzs:z.cells.size=size) (hz1:∀ u ∈ z.cells,u.oneCell'=true)
  (hown:w.ownsRow base e size (.slice (some ⟨g,0,none⟩) i c) i xs) (hm:i+m<=c) (ty:TypeId) (cc:Nat) :
  ∃ w',(Builtin.clear_ #[t] ty #[.slice (some ⟨g,i * size,none⟩) m cc]).run P w=.ok (.tuple #[]) w'/\w'.ownsRow base e size (.slice (some ⟨g,0,none⟩) i c) i xs/\Fr w.heap.size [g] w w':=by
 rcases Nat.eq_zero_or_pos m with h0 | h0
 · subst h0;refine ⟨w,?_,hown,Fr.refl _ _ _⟩;simp [Builtin.clear_,run_underlying T.ht]
 have hsp:=T.pos;obtain ⟨hl,hcs⟩:=hown
 rcases hcs with ⟨h0,_⟩ | ⟨g',cap,cur,hv,hb,hg,h1,h2,h3,h4⟩
 · cases h0
 ·
  injection hv with hv1 hv2 hv3
  injection hv1 with hv1
  injection hv1 with hv1
  subst hv1;subst hv3;have hzl:(Builtin.zeroCells z.cells m).toList.length=m * size:=(by simp [Builtin.zeroCells,hzs])
  have hzo:∀ v ∈ (Builtin.zeroCells z.cells m).toList,v.oneCell'=true:=by
   intro v hv;simp only [Builtin.zeroCells,Array.toList_map,List.mem_map] at hv;obtain ⟨j,_,rfl⟩:=hv;have hlt:j % z.cells.size < z.cells.size:=Nat.mod_lt _ (by omega);rw [show z.cells[j % z.cells.size]! = z.cells[j % z.cells.size] by simp [hlt]];exact hz1 _ (Array.getElem_mem hlt)
  have hle:(i+m) * size<=c * size:=Nat.mul_le_mul_right _ hm;rw [Nat.add_mul] at hle;obtain ⟨zs,hzs'⟩:∃ zs,zs=(Builtin.zeroCells z.cells m).toList:=⟨_,rfl⟩;have hst:=run_storeCells_at (P:=P) g (i * size) e zs 0 cur w hg (by rw [hzs',hzl,h3];omega) (by rw [hzs'];exact hzo);rw [<- hzs'] at hzl;obtain ⟨cs',hcs⟩:∃ cs':Array Value,cs'=(cur.toList.take (i * size+0) ++ zs ++ cur.toList.drop (i * size+0+zs.length)).toArray:=⟨_,rfl⟩;rw [<- hcs] at hst
  have hsz:cs'.size=cur.size:=by
   rw [hcs];simp only [List.size_toArray,List.length_append,List.length_take,List.length_drop,Array.length_toList];omega
  refine ⟨w.setRow g cs',?_,⟨hl,.inr ⟨g,c,cs',rfl,hb,setRow_heap w g cur cs' e (0,0) hg,h1,h2,by rw [hsz];exact h3,?_⟩⟩,⟨rfl,rfl,rfl,by simp,fun k _ hk=>setRow_other w g k cs' (by simpa using hk)⟩⟩
  · obtain ⟨q,hq⟩:∃ q,m=q+1:=⟨m - 1,by omega⟩;rw [hq] at hzs' ⊢;simp [Builtin.clear_,run_underlying T.ht,hz];rw [<- hzs',hst];rfl
  · rw [hcs,<- h4,List.append_assoc,Nat.add_zero,List.take_append_of_le_length (by rw [List.length_take,Array.length_toList,h3];omega),List.take_take,Nat.min_self]
end Go.Fb
namespace Go.Proofs.YtlejomlppjpchaaGreat
open Go.RowKit Go.Fb
set_option maxRecDepth 100000
set_option maxHeartbeats 16000000
set_option linter.unusedVariables false
def inTo (p:Int) (r:Nat->Int) (n:Nat):Bool:=(List.range n).all fun k=>decide (0<=r k/\r k < p)
def right8 (p:Int) (r:Nat->Int):Bool:=decide (1<=p/\p<=3) && inTo p r 8

theorem group_any (k:Int) (w:World):Calls Tryz.prog 128 #[.int .i64 k] w fun e w'=>e=.returned (.int .i64 (k % 8))/\w=w':=by
 have t1:k=8 * k.tdiv 8+k.tmod 8:=(Int.mul_tdiv_add_tmod k 8).symm
 have t2:-8 < k.tmod 8/\k.tmod 8 < 8:=by
  rcases Int.le_total 0 k with h | h
  · rw [Int.tmod_eq_emod_of_nonneg h];omega
  · have:=Int.neg_tmod k 8;have h2:(-k).tmod 8=(-k) % 8:=Int.tmod_eq_emod_of_nonneg (by omega);omega
 obtain ⟨t3,t4⟩:=t2;have T:=zh t1;clear t1;go_enter Tryz.func128,Tryz.ntmps128;go_wp2_with fail;go_ret;have h:=T.out;have hv:(k.tmod 8+8) % 8=k % 8:=(by omega);exact ⟨by rw [<- hv];rfl,rfl⟩
theorem intsTy:SliceTy Tryz.prog 43 3 1 8:=SliceTy.mk' (z:=.int .i64 0) Tryz.underlying43 (by kernel_rfl) rfl (by omega)
structure Nd where
 id:Int
 kind:Int
 par:Int
 fr:List Int
 pg:List (Int × Int)
 rt:Nat->Int
abbrev Ndm:=Nd × Value × Value
abbrev ndA (x:Nd) (sf sp:Value):Array Value:=#[.int .i64 x.id,.int .i64 x.kind,sf,sp,.int .i64 x.par,.int .i64 (x.rt 0),.int .i64 (x.rt 1),.int .i64 (x.rt 2),.int .i64 (x.rt 3),.int .i64 (x.rt 4),.int .i64 (x.rt 5),.int .i64 (x.rt 6),.int .i64 (x.rt 7)]
def ndL (m:Ndm):List Value:=(ndA m.1 m.2.1 m.2.2).toList
def cellsN (M:List Ndm):List Value:=M.flatMap ndL
theorem cellsN_length (M:List Ndm):(cellsN M).length=M.length * 13:=by
 unfold cellsN
 induction M with
 | nil=>rfl
 | cons x M ih=>rw [List.flatMap_cons,List.length_append,ih];simp [ndL];omega
theorem cellsN_app (a b:List Ndm):cellsN (a ++ b)=cellsN a ++ cellsN b:=by simp [cellsN]
theorem cellsN_get:∀ {M:List Ndm} {k:Nat} {m:Ndm},M[k]?=some m -> ∀ j,j < 13->(cellsN M)[k * 13+j]?=(ndL m)[j]?
 | [],k,x,h,_,_=>by simp at h
 | y :: l,0,x,h,j,hj=>by
  simp at h;subst h;rw [cellsN,List.flatMap_cons,Nat.zero_mul,Nat.zero_add,List.getElem?_append_left (by simp [ndL];omega)]
 | y :: l,k+1,x,h,j,hj=>by
  rw [cellsN,List.flatMap_cons,List.getElem?_append_right (by simp [ndL];omega)];have ih:=cellsN_get (M:=l) (k:=k) (m:=x) (by simpa using h) j hj;have e:(k+1) * 13+j - (ndL y).length=k * 13+j:=(by simp [ndL];omega);rw [e];exact ih
structure NdIn (w:World) (B:Nat) (m:Ndm):Prop where
 fr:∃ A c,m.2.1=.slice A m.1.fr.length c/\Reads w B 1 A m.1.fr.length (m.1.fr.map (Value.int .i64))
 pg:∃ A c,m.2.2=.slice A m.1.pg.length c/\Reads w B 2 A m.1.pg.length (cellsI m.1.pg)
theorem NdIn.frw {w w':World} {B B':Nat} {L:List Nat} {m:Ndm} (h:NdIn w B m) (hf:Fr B' L w w') (hB:B<=B') (hL:∀ k ∈ L,B<=k):NdIn w' B m:=by
 obtain ⟨⟨A,c,h1,h2⟩,⟨A',c',h3,h4⟩⟩:=h;exact ⟨⟨A,c,h1,h2.fr hf hB hL⟩,⟨A',c',h3,h4.fr hf hB hL⟩⟩
theorem NdIn.more {w:World} {B B':Nat} {m:Ndm} (h:NdIn w B m) (hB:B<=B'):NdIn w B' m:=by
 obtain ⟨⟨A,c,h1,h2⟩,⟨A',c',h3,h4⟩⟩:=h;exact ⟨⟨A,c,h1,h2.more hB⟩,⟨A',c',h3,h4.more hB⟩⟩
structure Nds (w:World) (B:Nat) (A:Option Addr) (n:Nat) (M:List Ndm):Prop where
 num:n=M.length
 rd:Reads w B 13 A n (cellsN M)
 inn:∀ m ∈ M,NdIn w B m
theorem Nds.frw {w w':World} {B B' n:Nat} {A:Option Addr} {L:List Nat} {M:List Ndm} (h:Nds w B A n M) (hf:Fr B' L w w') (hB:B<=B') (hL:∀ k ∈ L,B<=k):Nds w' B A n M :=
 ⟨h.num,h.rd.fr hf hB hL,fun m hm=>(h.inn m hm).frw hf hB hL⟩
theorem Nds.more {w:World} {B B' n:Nat} {A:Option Addr} {M:List Ndm} (h:Nds w B A n M) (hB:B<=B'):Nds w B' A n M :=
 ⟨h.num,h.rd.more hB,fun m hm=>(h.inn m hm).more hB⟩
theorem Nds.get {w:World} {B n:Nat} {A:Option Addr} {M:List Ndm} (h:Nds w B A n M) {k:Nat} {m:Ndm} (hk:M[k]?=some m) :
  ∃ b off,A=some ⟨b,off,none⟩/\b < B /\ ∀ j u,(ndL m)[j]?=some u->w.cell? ⟨b,off+k * 13+j,none⟩=some u:=by
 have hkn:k < n:=by
  rw [h.num]
  rcases Nat.lt_or_ge k M.length with h | h
  · exact h
  · rw [List.getElem?_eq_none h] at hk;cases hk
 obtain ⟨b,off,e,hb,hc⟩:=h.rd.2 (by omega);refine ⟨b,off,e,hb,fun j u hu => ?_⟩
 have hj:j < 13:=by
  rcases Nat.lt_or_ge j 13 with h | h
  · exact h
  · rw [List.getElem?_eq_none (by simp [ndL];omega)] at hu;cases hu
 rw [Nat.add_assoc];exact hc _ u (by rw [cellsN_get hk j hj];exact hu)
theorem iowns_empty (w:World):(w.alloc (.cells #[] 3)).ownsRow w.heap.size 3 1 (.slice (some ⟨w.heap.size,0,none⟩) 0 0) 0 []:=by
 refine ⟨rfl,.inr ⟨w.heap.size,0,#[],rfl,Nat.le_refl _,Blk.new _ _ _,?_⟩⟩;simp
theorem ints_nil (A:Option Addr) (n c:Nat) (w:World):(binOp .eql 43 (.slice A n c) (.slice none 0 0)).run Tryz.prog w=.ok (.bool A.isNone) w:=by
 simp only [binOp];simp [run_equal_slice_nil w _ _ A n c Tryz.underlying43]
theorem intC_one {l:List Int}:∀ u ∈ l.map (Value.int .i64),u.oneCell'=true:=by
 intro u hu;obtain ⟨x,_,rfl⟩:=List.mem_map.1 hu;rfl
theorem iclone_any (A:Option Addr) (n c B:Nat) (l:List Int) (w:World) (hl:n=l.length) (hn:n<=1000000) (hr:Reads w B 1 A n (l.map (Value.int .i64))) (hB:B<=w.heap.size) :
  Calls Tryz.prog 123 #[.slice A n c] w fun e w'=>∃ A' c',e=.returned (.slice A' n c')/\w'.ownsRow w.heap.size 3 1 (.slice A' n c') n (l.map (Value.int .i64))/\Fr w.heap.size [] w w':=by
 rcases A with _ | ad
 ·
  have h0:n=0:=by
   rcases Nat.eq_zero_or_pos n with h | h
   · exact h
   ·
    obtain ⟨b,off,e,_⟩:=hr.2 h
    cases e
  subst h0;have hle:l=[]:=List.eq_nil_of_length_eq_zero hl.symm;subst hle;have hq:∀ w,(binOp .eql 43 (.slice none 0 c) (.slice none 0 0)).run Tryz.prog w=.ok (.bool true) w:=ints_nil none 0 c;clear hr hn hl;go_enter Tryz.func123,Tryz.ntmps123;go_wp2_with fail;go_ret;exact ⟨none,0,rfl,World.ownsRow_nil _ _ _ _,Fr.refl _ _ _⟩
 · have ho:=iowns_empty w;have hf:=(Fr.refl w.heap.size [] w).alloc (Nat.le_refl _) (.cells #[] 3);have hr1:=hr.fr hf hB (by simp);have hs:w.heap.size < (w.alloc (.cells #[] 3)).heap.size:=(by simp);have hq:∀ w,(binOp .eql 43 (.slice (some ad) n c) (.slice none 0 0)).run Tryz.prog w=.ok (.bool false) w:=ints_nil (some ad) n c;clear hr hl;go_enter Tryz.func123,Tryz.ntmps123;go_wp2_with (at_builtin;refine wpList_app _ rfl (.tmp 5) (.tmp 6) intsTy rfl w.heap.size (.slice (some ⟨w.heap.size,0,none⟩) 0 0) 0 [] rfl ho B _ n _ (l.map (Value.int .i64)) rfl hr1 intC_one (by omega) (by omega) (by simp) ?_;intro A2 c2 w2 hown2 hg2 hat2);go_ret;rw [Nat.zero_add] at hown2;exact ⟨A2,c2,rfl,by simpa using hown2,hf.grown hg2 (by simp) (fun k hk=>.inl (by simp [Value.ownBlock] at hk;omega))⟩
theorem pgTy:SliceTy Tryz.prog 80 217 2 16:=SliceTy.mk' (z:=.agg #[.int .i64 0,.int .i64 0]) Tryz.underlying80 (by kernel_rfl) rfl (by omega)
theorem powns_empty (w:World):(w.alloc (.cells #[] 217)).ownsRow w.heap.size 217 2 (.slice (some ⟨w.heap.size,0,none⟩) 0 0) 0 []:=by
 refine ⟨rfl,.inr ⟨w.heap.size,0,#[],rfl,Nat.le_refl _,Blk.new _ _ _,?_⟩⟩;simp
theorem pgs_nil (A:Option Addr) (n c:Nat) (w:World):(binOp .eql 80 (.slice A n c) (.slice none 0 0)).run Tryz.prog w=.ok (.bool A.isNone) w:=by
 simp only [binOp];simp [run_equal_slice_nil w _ _ A n c Tryz.underlying80]
theorem insC_one {l:List (Int × Int)}:∀ u ∈ cellsI l,u.oneCell'=true:=by
 intro u hu;obtain ⟨x,_,hx⟩:=List.mem_flatMap.1 hu;simp only [insC,List.mem_cons,List.not_mem_nil,or_false] at hx
 rcases hx with rfl | rfl <;> rfl
theorem pclone_any (A:Option Addr) (n c B:Nat) (l:List (Int × Int)) (w:World) (hl:n=l.length) (hn:n<=1000000) (hr:Reads w B 2 A n (cellsI l)) (hB:B<=w.heap.size) :
  Calls Tryz.prog 143 #[.slice A n c] w fun e w'=>∃ A' c',e=.returned (.slice A' n c')/\w'.ownsRow w.heap.size 217 2 (.slice A' n c') n (cellsI l)/\Fr w.heap.size [] w w':=by
 rcases A with _ | ad
 ·
  have h0:n=0:=by
   rcases Nat.eq_zero_or_pos n with h | h
   · exact h
   ·
    obtain ⟨b,off,e,_⟩:=hr.2 h
    cases e
  subst h0;have hle:l=[]:=List.eq_nil_of_length_eq_zero hl.symm;subst hle;have hq:∀ w,(binOp .eql 80 (.slice none 0 c) (.slice none 0 0)).run Tryz.prog w=.ok (.bool true) w:=pgs_nil none 0 c;clear hr hn hl;go_enter Tryz.func143,Tryz.ntmps143;go_wp2_with fail;go_ret;exact ⟨none,0,rfl,World.ownsRow_nil _ _ _ _,Fr.refl _ _ _⟩
 · have ho:=powns_empty w;have hf:=(Fr.refl w.heap.size [] w).alloc (Nat.le_refl _) (.cells #[] 217);have hr1:=hr.fr hf hB (by simp);have hs:w.heap.size < (w.alloc (.cells #[] 217)).heap.size:=(by simp);have hq:∀ w,(binOp .eql 80 (.slice (some ad) n c) (.slice none 0 0)).run Tryz.prog w=.ok (.bool false) w:=pgs_nil (some ad) n c;clear hr hl;go_enter Tryz.func143,Tryz.ntmps143;go_wp2_with (at_builtin;refine wpList_app _ rfl (.tmp 5) (.tmp 6) pgTy rfl w.heap.size (.slice (some ⟨w.heap.size,0,none⟩) 0 0) 0 [] rfl ho B _ n _ (cellsI l) rfl hr1 insC_one (by omega) (by omega) (by simp) ?_;intro A2 c2 w2 hown2 hg2 hat2);go_ret;rw [Nat.zero_add] at hown2;exact ⟨A2,c2,rfl,by simpa using hown2,hf.grown hg2 (by simp) (fun k hk=>.inl (by simp [Value.ownBlock] at hk;omega))⟩
end Go.Proofs.YtlejomlppjpchaaGreat
namespace Go.Proofs.YtlejomlppjpchaaGreat
open Go.RowKit Go.Fb
set_option maxRecDepth 100000
set_option maxHeartbeats 16000000
set_option linter.unusedVariables false
abbrev Pk:Type:=Int × Int
abbrev CV:Type:=Int × Int × Int × Int
abbrev pkV (p:Pk):Value:=.agg #[.int .i64 p.1,.int .i64 p.2]
abbrev cvV (c:CV):Value:=.agg #[.int .i64 c.1,.int .i64 c.2.1,.int .i64 c.2.2.1,.int .i64 c.2.2.2]
def c0:CV:=(0,0,0,0)
def updT (T:Pk->CV) (p:Pk) (c:CV):Pk->CV:=fun q=>if q=p then c else T q
theorem pk_beq (x y:Pk):(x.1 == y.1 && x.2 == y.2)=decide (x=y):=by
 obtain ⟨a,b⟩:=x;obtain ⟨a',b'⟩:=y;rw [Bool.eq_iff_iff];simp
theorem pkV_inj {p q:Pk} (h:pkV p=pkV q):p=q:=by
 obtain ⟨a,b⟩:=p;obtain ⟨a',b'⟩:=q;unfold pkV at h;injection h with h
 simp only [Array.mk.injEq,List.cons.injEq,Value.int.injEq,true_and,and_true] at h;obtain ⟨rfl,rfl⟩:=h;rfl
theorem pk_eq (x y:Pk) (w:World):(Op.equal 147 (pkV x) (pkV y)).run Tryz.prog w=.ok (decide (x=y)) w:=by
 have h:(Op.equalIn 10000 147 (pkV x) (pkV y)).run Tryz.prog w=.ok (x.1 == y.1 && x.2 == y.2) w:=by
  rw [run_equalIn_struct w 9999 147 _ _ (by kernel_rfl) (by kernel_rfl)];simp only [Program.fieldsOf,Tryz.underlying147]
  by_cases h1:x.1=y.1
  · by_cases h2:x.2=y.2 <;> simp [Op.eqFields,part,isAgg,run_underlying Tryz.underlying3,run_equalIn_int w 9998 3 .i64 .i64 _ _ Tryz.underlying3,h1,h2]
  · simp [Op.eqFields,part,isAgg,run_underlying Tryz.underlying3,run_equalIn_int w 9998 3 .i64 .i64 _ _ Tryz.underlying3,h1]
 rw [pk_beq] at h;simp [Op.equal,Op.maxDepth,h]
theorem pk_check (b:Bool) (x:Pk) (w:World):(Instr.checkKey b 10000 147 (pkV x)).run Tryz.prog w=.ok () w:=by
 have hi:∀ v:Int,(Instr.checkKey b 9999 3 (.int .i64 v)).run Tryz.prog w=.ok () w:=fun v=>MapKept.run_checkKey (k:=.int .i64 v) Tryz.underlying3 (by simp [MapKept.IsKey]) b 9998;rw [show (10000:Nat)=9999+1 from rfl];unfold Instr.checkKey;simp [run_underlying Tryz.underlying147,Result.andThen,part,isAgg,run_underlying Tryz.underlying3,hi]
theorem pk_stays (x:Pk) (w:World):(Instr.keyThatStays (pkV x) (pkV x)).run Tryz.prog w=.ok (pkV x) w:=by
 have h:Instr.sameBits 10000 (pkV x) (pkV x)=true:=by
  rw [show (10000:Nat)=9998+1+1 from rfl];simp [Instr.sameBits]
 unfold Instr.keyThatStays;rw [if_pos h];rfl
def posK (p:Pk):List Pk->Nat->Option Nat
 | [],_=>none
 | x :: l,i=>if p=x then some i else posK p l (i+1)
theorem posK_some {p:Pk}:∀ {K:List Pk} {i j:Nat},posK p K i=some j->i<=j/\K[j - i]?=some p
 | [],i,j,h=>by simp [posK] at h
 | x :: l,i,j,h=>by
  unfold posK at h
  split at h
  ·
   rename_i hp;injection h with h
   subst h;subst hp;exact ⟨Nat.le_refl _,by simp⟩
  · obtain ⟨a,b⟩:=posK_some h;refine ⟨by omega,?_⟩;rw [show j - i=(j - (i+1))+1 by omega,List.getElem?_cons_succ];exact b
theorem posK_none {p:Pk}:∀ {K:List Pk} {i:Nat},posK p K i=none->p ∉ K
 | [],i,_=>by simp
 | x :: l,i,h=>by
  unfold posK at h
  split at h
  · cases h
  · rename_i hp;have:=posK_none h;simp [hp,this]
structure Ents (es:Array MapEntry) (clock:Nat) (K:List Pk) (T:Pk->CV):Prop where
 old:∀ x ∈ es.toList,x.born < clock
 born:(es.toList.map (·.born)).Nodup
 nd:K.Nodup
 mem:∀ p,p ∈ K ↔ T p ≠ c0
 kv:es.toList.map (fun e=>(e.key,e.val))=K.map (fun p=>(pkV p,cvV (T p)))
theorem pk_asking (T:Pk->CV) (x:Pk) (w:World):∀ (es:List MapEntry) (K:List Pk) (i:Nat),es.map (fun e=>(e.key,e.val))=K.map (fun p=>(pkV p,cvV (T p)))->(Instr.findAsking 147 (pkV x) es i).run Tryz.prog w=.ok ((posK x K i).map fun j=>(j,cvV (T x))) w
 | [],[],i,_=>by simp [Instr.findAsking,posK]
 | [],_ :: _,_,h=>by simp at h
 | _ :: _,[],_,h=>by simp at h
 | e :: es,y :: l,i,h=>by
  simp only [List.map_cons,List.cons.injEq,Prod.mk.injEq] at h;obtain ⟨⟨h1,h2⟩,h3⟩:=h;have ih:=pk_asking T x w es l (i+1) h3;have he:=pk_eq x y w;rw [<- h1] at he;unfold posK
  by_cases hxy:x=y
  · rw [decide_eq_true hxy] at he;rw [if_pos hxy];subst hxy;simp [Instr.findAsking,he,Result.andThen,h2]
  · rw [decide_eq_false hxy] at he;rw [if_neg hxy];simp only [Instr.findAsking,Sem.run_bind,he,Result.andThen_ok,Bool.false_eq_true,if_false];exact ih
theorem pk_find {w:World} {T:Pk->CV} {K:List Pk} (x:Pk) (es:Array MapEntry) (h:es.toList.map (fun e=>(e.key,e.val))=K.map (fun p=>(pkV p,cvV (T p)))) :
  (Instr.findKey 147 (pkV x) es.toList).run Tryz.prog w=.ok ((posK x K 0).map fun j=>(j,cvV (T x))) w:=by
 have ha:=pk_asking T x w es.toList K 0 h
 cases hl:es.toList with
 | nil =>
  rw [hl] at h;have:K=[]:=(by simpa using h.symm);subst this;simp [Instr.findKey,run_underlying Tryz.underlying147,Result.andThen,Instr.findNow,posK]
 | cons e es' =>
  rw [hl] at ha h
  cases K with
  | nil=>simp at h
  | cons y l' =>
   have hk:e.key=pkV y:=(by simp at h;exact h.1.1)
   have hn:Instr.findNow (Tryz.prog.underlying 147 |>.getD .bool) (pkV x) (e :: es') 0=none:=by
    rw [Tryz.underlying147];simp [Instr.findNow,hk,Instr.sameNow]
   have hrun:(Instr.findKey 147 (pkV x) (e :: es')).run Tryz.prog w=(Instr.findAsking 147 (pkV x) (e :: es') 0).run Tryz.prog w:=by
    rw [Tryz.underlying147] at hn;simp only [Option.getD_some] at hn;simp [Instr.findKey,run_underlying Tryz.underlying147,Result.andThen,hn]
   rw [hrun];exact ha
def KMap (w:World) (r:Nat) (T:Pk->CV):Prop:=∃ K es clock,w.heap[r]?=some (.map es clock)/\Ents es clock K T
def setM (w:World) (r:Nat) (o:Obj):World:={ w with heap:=w.heap.setIfInBounds r o }
theorem setM_fr (w:World) (r:Nat) (o:Obj):Fr w.heap.size [r] w (setM w r o) :=
 ⟨rfl, rfl, rfl, by simp [setM], fun k _ hk => by
  have:r ≠ k:=fun e=>hk (by simp [e])
  simp [setM,this]⟩
theorem setM_new {w:World} {r:Nat} (h:r < w.heap.size) (o:Obj):(setM w r o).heap[r]?=some o:=by simp [setM,h]
theorem setM_size (w:World) (r:Nat) (o:Obj):(setM w r o).heap.size=w.heap.size:=by simp [setM]
section
variable {w w':World} {r:Nat} {T:Pk->CV}
theorem KMap.lt (h:KMap w r T):r < w.heap.size:=by
 obtain ⟨K,es,clock,hb,_⟩:=h
 rcases Nat.lt_or_ge r w.heap.size with h | h
 · exact h
 · rw [Array.getElem?_eq_none h] at hb;cases hb
theorem KMap.new (w:World):KMap (w.alloc (.map #[] 0)) w.heap.size (fun _=>c0):=⟨[],#[],0,heap_alloc_new w _,by simp,by simp,List.nodup_nil,by simp,rfl⟩
theorem KMap.fr {B:Nat} {L:List Nat} (h:KMap w r T) (hf:Fr B L w w') (h1:r < B) (h2:r ∉ L):KMap w' r T:=by
 obtain ⟨K,es,clock,hb,he⟩:=h;exact ⟨K,es,clock,(hf.block r h1 h2).trans hb,he⟩
theorem KMap.ne {g t:Nat} {cs:Array Value} (h:KMap w r T) (hb:Blk w g t cs):r ≠ g:=by
 rintro rfl;obtain ⟨K,es,clock,h1,_⟩:=h;unfold Blk at hb;rw [h1] at hb
 cases hb
theorem KMap.look (h:KMap w r T) (x:Pk):(Instr.lookup 203 (.map (some r)) (pkV x) false).run Tryz.prog w=.ok (cvV (T x)) w:=by
 obtain ⟨K,es,clock,hb,he⟩:=h;have hc:=fun b=>pk_check b x w;have hz:(zeroValue 109).run Tryz.prog w=.ok (cvV c0) w:=(by kernel_rfl);have hf:=pk_find (w:=w) x es he.kv
 cases hm:posK x K 0 with
 | none =>
  rw [hm] at hf;have hT:T x=c0:=Decidable.not_not.1 fun hn=>posK_none hm ((he.mem x).2 hn);rw [hT];simp [Instr.lookup,run_underlying Tryz.underlying203,MapKept.run_getObj_map hb,hc,hf,hz,Result.andThen]
 | some y =>
  rw [hm] at hf;simp [Instr.lookup,run_underlying Tryz.underlying203,MapKept.run_getObj_map hb,hc,hf,Result.andThen]
theorem KMap.store (h:KMap w r T) (x:Pk) (c:CV) (hc0:c ≠ c0) :
  ∃ w',(Instr.mapUpdate 203 (.map (some r)) (pkV x) (cvV c)).run Tryz.prog w=.ok () w'/\KMap w' r (updT T x c)/\Fr w.heap.size [r] w w'/\w'.heap.size=w.heap.size:=by
 have hlt:=h.lt;obtain ⟨K,es,clock,hb,he⟩:=h;have hc:=fun b=>pk_check b x w;have hf:=pk_find (w:=w) x es he.kv;have hlen:es.toList.length=K.length:=(by have:=congrArg List.length he.kv;simpa using this)
 cases hm:posK x K 0 with
 | none =>
  rw [hm] at hf;have hx:=posK_none hm;refine ⟨setM w r (.map (es.push { key:=pkV x,val:=cvV c,born:=clock }) (clock+1)),?_,⟨K ++ [x],_,_,setM_new hlt _,?_,?_,?_,?_,?_⟩,setM_fr _ _ _,setM_size _ _ _⟩
  · simp [Instr.mapUpdate,run_underlying Tryz.underlying203,MapKept.run_getObj_map hb,hc,hf,MapKept.run_setObj_map _ hb,Result.andThen,setM]
  ·
   intro y hy;rw [Array.toList_push,List.mem_append,List.mem_singleton] at hy
   rcases hy with hy | rfl
   · have:=he.old y hy;omega
   · show clock < clock+1;omega
  · rw [Array.toList_push,List.map_append];refine List.nodup_append.2 ⟨he.born,by simp,fun a ha c hc e1 => ?_⟩;simp at hc;obtain ⟨y,hy,rfl⟩:=List.mem_map.1 ha;have:=he.old y hy;omega
  · rw [List.nodup_append];exact ⟨he.nd,by simp,fun a ha b hb=>by rw [List.mem_singleton] at hb;rw [hb];exact fun e=>hx (e ▸ ha)⟩
  ·
   intro p;unfold updT;rw [List.mem_append,List.mem_singleton,he.mem]
   by_cases e:p=x
   · rw [if_pos e];simp [e,hc0]
   · rw [if_neg e];simp [e]
  ·
   rw [Array.toList_push,List.map_append,List.map_append,he.kv]
   congr 1
   · refine List.map_congr_left fun p hp => ?_;unfold updT;have hne:p ≠ x:=fun e=>hx (e ▸ hp);rw [if_neg hne]
   · simp [updT]
 | some y =>
  rw [hm] at hf;obtain ⟨_,g2⟩:=posK_some hm;rw [Nat.sub_zero] at g2;have hyl:y < K.length:=(List.getElem?_eq_some_iff.1 g2).1;obtain ⟨e0,he0⟩:∃ e0,es.toList[y]?=some e0:=⟨_,List.getElem?_eq_getElem (by omega)⟩
  have hkv:(e0.key,e0.val)=(pkV x,cvV (T x)):=by
   have a:(es.toList.map (fun e=>(e.key,e.val)))[y]?=some (e0.key,e0.val):=(by rw [List.getElem?_map,he0];rfl);rw [he.kv,List.getElem?_map,g2] at a;simpa using a.symm
  have hk0:e0.key=pkV x:=congrArg Prod.fst hkv;have hj:es[y]?=some e0:=(by simpa using he0)
  have hml:(es.modify y (fun e=>{ e with key:=pkV x,val:=cvV c })).toList=es.toList.set y { e0 with key:=pkV x,val:=cvV c }:=by
   rw [Array.toList_modify,Go.ChangeMaps.modify_eq_set _ _ _ _ he0]
  refine ⟨setM w r (.map (es.modify y (fun e=>{ e with key:=pkV x,val:=cvV c })) clock),?_,⟨K,_,_,setM_new hlt _,?_,?_,he.nd,?_,?_⟩,setM_fr _ _ _,setM_size _ _ _⟩
  · simp [Instr.mapUpdate,run_underlying Tryz.underlying203,MapKept.run_getObj_map hb,hc,hf,hj,hk0,pk_stays,MapKept.run_setObj_map _ hb,Result.andThen,setM]
  ·
   intro z hz;rw [hml] at hz
   rcases List.mem_or_eq_of_mem_set hz with hz | rfl
   · exact he.old z hz
   · exact he.old e0 (List.mem_of_getElem? he0)
  ·
   rw [hml,List.map_set]
   show (List.set _ y e0.born).Nodup
   rw [Go.WideElems.set_self _ _ _ (by rw [List.getElem?_map,he0];rfl)];exact he.born
  ·
   intro p;unfold updT;rw [he.mem]
   by_cases e:p=x
   · rw [if_pos e];have:=(he.mem x).1 (List.mem_of_getElem? g2);simp [e,hc0,this]
   · rw [if_neg e]
  ·
   rw [hml,List.map_set,he.kv];refine List.ext_getElem? fun j => ?_;rw [List.getElem?_set,List.getElem?_map,List.getElem?_map]
   by_cases hjy:y=j
   · subst hjy;rw [if_pos rfl,List.length_map,if_pos hyl,g2];simp [updT]
   ·
    rw [if_neg hjy]
    cases hp:K[j]? with
    | none=>rfl
    | some p =>
     have:p ≠ x:=fun e=>by
      subst e;obtain ⟨i1,e1⟩:=List.getElem?_eq_some_iff.1 g2;obtain ⟨i2,e2⟩:=List.getElem?_eq_some_iff.1 hp;exact hjy ((List.getElem_inj he.nd).1 (e1.trans e2.symm))
     simp [updT,this]
theorem mem_eraseIdx_nd {K:List Pk} (hn:K.Nodup) {j:Nat} {x:Pk} (hj:K[j]?=some x) (p:Pk):p ∈ K.eraseIdx j ↔ p ∈ K/\p ≠ x:=by
 rw [List.mem_eraseIdx_iff_getElem?];obtain ⟨i2,e2⟩:=List.getElem?_eq_some_iff.1 hj;constructor
 · rintro ⟨i,hi,h⟩;refine ⟨List.mem_of_getElem? h,fun e => ?_⟩;subst e;obtain ⟨i1,e1⟩:=List.getElem?_eq_some_iff.1 h;exact hi ((List.getElem_inj hn).1 (e1.trans e2.symm))
 · rintro ⟨h,hne⟩;obtain ⟨i,hi⟩:=List.mem_iff_getElem?.1 h;exact ⟨i,fun e=>by subst e;rw [hj] at hi;injection hi with hi;exact hne hi.symm,hi⟩
theorem KMap.del (h:KMap w r T) (x:Pk) :
  ∃ w',(∀ ty,(Builtin.delete_ #[203,147] ty #[.map (some r),pkV x]).run Tryz.prog w=.ok (.tuple #[]) w')/\KMap w' r (updT T x c0)/\Fr w.heap.size [r] w w'/\w'.heap.size=w.heap.size:=by
 have hlt:=h.lt;obtain ⟨K,es,clock,hb,he⟩:=h;have hc:=fun b=>pk_check b x w;have hf:=pk_find (w:=w) x es he.kv;have hlen:es.toList.length=K.length:=(by have:=congrArg List.length he.kv;simpa using this)
 cases hm:posK x K 0 with
 | none =>
  rw [hm] at hf;have hx:=posK_none hm;have hT:T x=c0:=Decidable.not_not.1 fun hn=>hx ((he.mem x).2 hn)
  have hTe:updT T x c0=T:=by
   funext q
   unfold updT
   by_cases e:q=x
   · rw [if_pos e,e,hT]
   · rw [if_neg e]
  refine ⟨setM w r (.map es clock),fun ty => ?_,⟨K,_,_,setM_new hlt _,by rw [hTe];exact he⟩,setM_fr _ _ _,setM_size _ _ _⟩;simp [Builtin.delete_,run_underlying Tryz.underlying203,MapKept.run_getObj_map hb,hc,hf,MapKept.run_setObj_map _ hb,Result.andThen,setM]
 | some y =>
  rw [hm] at hf;obtain ⟨_,g2⟩:=posK_some hm;rw [Nat.sub_zero] at g2;have hyl:y < K.length:=(List.getElem?_eq_some_iff.1 g2).1;have hyE:y < es.size:=(by rw [<- Array.length_toList];omega)
  have hml:(es.eraseIdxIfInBounds y).toList=es.toList.eraseIdx y:=by
   unfold Array.eraseIdxIfInBounds;rw [dif_pos hyE,Array.toList_eraseIdx]
  refine ⟨setM w r (.map (es.eraseIdxIfInBounds y) clock),fun ty => ?_,⟨K.eraseIdx y,_,_,setM_new hlt _,?_,?_,?_,?_,?_⟩,setM_fr _ _ _,setM_size _ _ _⟩
  · simp [Builtin.delete_,run_underlying Tryz.underlying203,MapKept.run_getObj_map hb,hc,hf,MapKept.run_setObj_map _ hb,Result.andThen,setM]
  · intro z hz;rw [hml] at hz;exact he.old z ((List.eraseIdx_sublist _ _).subset hz)
  · rw [hml];exact he.born.sublist ((List.eraseIdx_sublist _ _).map _)
  · exact he.nd.sublist (List.eraseIdx_sublist _ _)
  ·
   intro p;rw [mem_eraseIdx_nd he.nd g2,he.mem];unfold updT
   by_cases e:p=x
   · rw [if_pos e];simp [e]
   · rw [if_neg e];simp [e]
  ·
   have hme:∀ {α β:Type} (f:α->β) (l:List α) (i:Nat),(l.eraseIdx i).map f=(l.map f).eraseIdx i:=fun f l i=>by
    rw [List.eraseIdx_eq_take_drop_succ,List.eraseIdx_eq_take_drop_succ,List.map_append,List.map_take,List.map_drop]
   rw [hml,hme,he.kv,<- hme];refine List.map_congr_left fun p hp => ?_;have:=((mem_eraseIdx_nd he.nd g2 p).1 hp).2;unfold updT;rw [if_neg this]
end
end Go.Proofs.YtlejomlppjpchaaGreat
namespace Go.Proofs.YtlejomlppjpchaaGreat
open Go.RowKit Go.Fb
set_option maxRecDepth 100000
set_option maxHeartbeats 16000000
set_option linter.unusedVariables false
theorem eqItems_int {e:TypeId} {k:IntKind} {P:Program} (he:P.underlying e=some (.int k)) (hc:P.cellsOf e=1) (d:Nat) (xs ys:Array Value) (f g:Nat->Int) (w:World) :
  ∀ is:List Nat,(∀ j ∈ is,xs[j]?=some (.int k (f j))/\ys[j]?=some (.int k (g j)))->(Op.eqItems (d+1) e (P.cellsOf e) xs ys is).run P w=.ok (is.all fun j=>f j == g j) w
 | [],_=>by simp [Op.eqItems]
 | i :: is,h=>by
  obtain ⟨h1,h2⟩:=h i (by simp);have ih:=eqItems_int he hc d xs ys f g w is (fun j hj=>h j (by simp [hj]));have p1:(part e xs (i * P.cellsOf e)).run P w=.ok (.int k (f i)) w:=(by simp [part,isAgg,run_underlying he,hc,h1]);have p2:(part e ys (i * P.cellsOf e)).run P w=.ok (.int k (g i)) w:=(by simp [part,isAgg,run_underlying he,hc,h2]);simp only [Op.eqItems,Sem.run_bind,p1,p2,Result.andThen_ok,run_equalIn_int w d e k k (f i) (g i) he]
  cases hb:(f i == g i)
  · simp [hb]
  · simp [ih,hb]
theorem eq8 (r s:Nat->Int) (w:World):(Op.equalIn 10000 81 (A8 r) (A8 s)).run Tryz.prog w=.ok ((List.range 8).all fun j=>r j == s j) w:=by
 obtain ⟨i,hi,hz,hsz,hby⟩:=info_parts intinfo;rw [run_equalIn_array w 9999 _ _ Tryz.underlying81 hi];refine eqItems_int Tryz.underlying3 (by kernel_rfl) 9998 _ _ r s w _ (fun j hj => ?_);have hj8:j < 8:=(by simpa using hj);exact ⟨C8_get r hj8,C8_get s hj8⟩
theorem val_eq (d:Nat) (a b:Int) (w:World):(Op.equalIn (d+2) 48 (.agg #[.int .i64 a,.int .i64 b]) (.agg #[.int .i64 a,.int .i64 b])).run Tryz.prog w=.ok true w:=by
 rw [run_equalIn_struct w (d+1) 48 _ _ (by kernel_rfl) (by kernel_rfl)];simp [Program.fieldsOf,Tryz.underlying48];simp [Op.eqFields,part,isAgg,run_underlying Tryz.underlying3,run_equalIn_int w d 3 .i64 .i64 _ _ Tryz.underlying3]
theorem valinfo:(Tryz.prog.info? 48).map (fun i=>(i.zero,i.size,i.bytes))=some (some (.agg #[.int .i64 0,.int .i64 0]),2,16):=by kernel_rfl
theorem vals_eq (d:Nat) (a b c e:Int) (w:World):(Op.equalIn (d+3) 109 (.agg #[.int .i64 a,.int .i64 b,.int .i64 c,.int .i64 e]) (.agg #[.int .i64 a,.int .i64 b,.int .i64 c,.int .i64 e])).run Tryz.prog w=.ok true w:=by
 obtain ⟨i,hi,hz,hsz,hby⟩:=info_parts valinfo;rw [run_equalIn_array w (d+2) _ _ Tryz.underlying109 hi];have hc:Tryz.prog.cellsOf 48=2:=(by kernel_rfl);have hsO:∀ w,(sizeOf 48).run Tryz.prog w=.ok 2 w:=fun w=>by kernel_rfl
 have p0:∀ w,(part 48 #[.int .i64 a,.int .i64 b,.int .i64 c,.int .i64 e] 0).run Tryz.prog w=.ok (.agg #[.int .i64 a,.int .i64 b]) w:=fun w=>by
  simp [part,isAgg,run_underlying Tryz.underlying48,hsO]
 have p1:∀ w,(part 48 #[.int .i64 a,.int .i64 b,.int .i64 c,.int .i64 e] 2).run Tryz.prog w=.ok (.agg #[.int .i64 c,.int .i64 e]) w:=fun w=>by
  simp [part,isAgg,run_underlying Tryz.underlying48,hsO]
 simp [hc,List.range_succ,Op.eqItems,p0,p1,val_eq]
theorem ent_eq (x0 x1 x2 x3 x4 x5:Int) (w:World):(Op.equalIn 10000 111 (.agg #[.int .i64 x0,.int .i64 x1,.int .i64 x2,.int .i64 x3,.int .i64 x4,.int .i64 x5]) (.agg #[.int .i64 x0,.int .i64 x1,.int .i64 x2,.int .i64 x3,.int .i64 x4,.int .i64 x5])).run Tryz.prog w=.ok true w:=by
 rw [run_equalIn_struct w 9999 111 _ _ (by kernel_rfl) (by kernel_rfl)];have hsO:∀ w,(sizeOf 109).run Tryz.prog w=.ok 4 w:=fun w=>by kernel_rfl
 have p2:∀ w,(part 109 #[.int .i64 x0,.int .i64 x1,.int .i64 x2,.int .i64 x3,.int .i64 x4,.int .i64 x5] 2).run Tryz.prog w=.ok (.agg #[.int .i64 x2,.int .i64 x3,.int .i64 x4,.int .i64 x5]) w:=fun w=>by
  simp [part,isAgg,run_underlying Tryz.underlying109,hsO]
 have p0:∀ w,(part 3 #[.int .i64 x0,.int .i64 x1,.int .i64 x2,.int .i64 x3,.int .i64 x4,.int .i64 x5] 0).run Tryz.prog w=.ok (.int .i64 x0) w:=fun w=>by
  simp [part,isAgg,run_underlying Tryz.underlying3]
 have p1:∀ w,(part 3 #[.int .i64 x0,.int .i64 x1,.int .i64 x2,.int .i64 x3,.int .i64 x4,.int .i64 x5] 1).run Tryz.prog w=.ok (.int .i64 x1) w:=fun w=>by
  simp [part,isAgg,run_underlying Tryz.underlying3]
 have v:=vals_eq 9996 x2 x3 x4 x5 w;have e0:=run_equalIn_int w 9998 3 .i64 .i64 x0 x0 Tryz.underlying3;have e1:=run_equalIn_int w 9998 3 .i64 .i64 x1 x1 Tryz.underlying3;simp [Program.fieldsOf,Tryz.underlying111,Op.eqFields,p0,p1,p2,v,e0,e1]
theorem ent_neq (x0 x1 x2 x3 x4 x5:Int) (w:World):(binOp .neq 111 (.agg #[.int .i64 x0,.int .i64 x1,.int .i64 x2,.int .i64 x3,.int .i64 x4,.int .i64 x5]) (.agg #[.int .i64 x0,.int .i64 x1,.int .i64 x2,.int .i64 x3,.int .i64 x4,.int .i64 x5])).run Tryz.prog w=.ok (.bool false) w:=by
 simp [binOp,Op.equal,Op.maxDepth,ent_eq]
def entC (x:Nat->Int):List Value:=[.int .i64 (x 0),.int .i64 (x 1),.int .i64 (x 2),.int .i64 (x 3),.int .i64 (x 4),.int .i64 (x 5)]
def cellsE (l:List (Nat->Int)):List Value:=l.flatMap entC
theorem entC_get (x:Nat->Int):∀ j,j < 6->(entC x)[j]?=some (.int .i64 (x j))
 | 0,_=>rfl
 | 1,_=>rfl
 | 2,_=>rfl
 | 3,_=>rfl
 | 4,_=>rfl
 | 5,_=>rfl
 | j+6,h=>by omega
theorem cellsE_get:∀ {l:List (Nat->Int)} {k:Nat} {x:Nat->Int},l[k]?=some x -> ∀ j,j < 6->(cellsE l)[k * 6+j]?=some (.int .i64 (x j))
 | [],k,x,h,_,_=>by simp at h
 | y :: l,0,x,h,j,hj=>by
  simp at h;subst h;rw [cellsE,List.flatMap_cons,Nat.zero_mul,Nat.zero_add,List.getElem?_append_left (by simp [entC];omega)];exact entC_get y j hj
 | y :: l,k+1,x,h,j,hj=>by
  rw [cellsE,List.flatMap_cons,List.getElem?_append_right (by simp [entC];omega)];have ih:=cellsE_get (l:=l) (k:=k) (x:=x) (by simpa using h) j hj;have e:(k+1) * 6+j - (entC y).length=k * 6+j:=(by simp [entC];omega);rw [e];exact ih
theorem reads_ent {w:World} {B:Nat} {A:Option Addr} {l:List (Nat->Int)} (h:Reads w B 6 A l.length (cellsE l)) {k:Nat} {x:Nat->Int} (hx:l[k]?=some x) :
  ∃ b off,A=some ⟨b,off,none⟩/\b < B /\ ∀ j,j < 6->w.cell? ⟨b,off+(k * 6+j),none⟩=some (.int .i64 (x j)):=by
 have hk:k < l.length:=by
  rcases Nat.lt_or_ge k l.length with h | h
  · exact h
  · rw [List.getElem?_eq_none h] at hx;cases hx
 obtain ⟨b,off,e,hb,hc⟩:=h.2 (by omega);exact ⟨b,off,e,hb,fun j hj=>hc _ _ (cellsE_get hx j hj)⟩
theorem same_yes {w:World} {B1 B2:Nat} {A1 A2:Option Addr} {c1 c2:Nat} {l:List (Nat->Int)} (h1:Reads w B1 6 A1 l.length (cellsE l)) (h2:Reads w B2 6 A2 l.length (cellsE l)) (_hl:l.length<=1000000) :
  Calls Tryz.prog 15 #[.slice A1 l.length c1,.slice A2 l.length c2] w fun e w'=>e=.returned (.bool true)/\Fr w.heap.size [] w w':=by
 have H1:=zh h1;have H2:=zh h2;have HX:=zh (fun (k:Nat) (hk:k < l.length)=>(⟨l[k],List.getElem?_eq_getElem hk⟩:∃ x,l[k]?=some x));clear h1 h2;generalize hn:l.length=n at *;have HN:=zh hn;clear hn;go_enter Tryz.func15,Tryz.ntmps15;go_wp2_with fail;go_loopw [5] (fun i wr=>∃ (k m:Nat),k<=n/\i=.int .i64 k/\wr=w.drewN m) (fun i _=>n - (intOf i).toNat)
 case atStart=>exact ⟨0,0,by omega,rfl,rfl⟩
 case round =>
  obtain ⟨k,m,hk,rfl,rfl⟩:=hrel
  by_cases hkn:k < n
  ·
   obtain ⟨x,hx⟩:=HX.out k hkn;obtain ⟨b1,o1,rfl,hb1,hc1⟩:=reads_ent (by rw [HN.out];exact H1.out) hx;obtain ⟨b2,o2,rfl,hb2,hc2⟩:=reads_ent (by rw [HN.out];exact H2.out) hx;have p0:=hc1 0 (by omega);have p1:=hc1 1 (by omega);have p2:=hc1 2 (by omega);have p3:=hc1 3 (by omega);have p4:=hc1 4 (by omega);have p5:=hc1 5 (by omega);have q0:=hc2 0 (by omega);have q1:=hc2 1 (by omega);have q2:=hc2 2 (by omega);have q3:=hc2 3 (by omega);have q4:=hc2 4 (by omega);have q5:=hc2 5 (by omega);simp only [Nat.add_zero,<- Nat.add_assoc] at p0 p1 p2 p3 p4 p5 q0 q1 q2 q3 q4 q5;have hki:(k:Int) < (n:Int):=(by omega);have hnq:=fun w=>ent_neq (x 0) (x 1) (x 2) (x 3) (x 4) (x 5) w;clear hc1 hc2 hx;go_wp2_with fail;go_quiet (fail);go_wp2_with fail;go_roundw
   case rel=>exact ⟨k+1,_,by omega,by go_num,rfl⟩
   case measure=>simp [intOf];omega
  ·
   obtain rfl:k=n:=by omega
   go_wp2_with fail;go_ret;exact ⟨rfl,(Fr.refl _ _ _).drewN _⟩
end Go.Proofs.YtlejomlppjpchaaGreat
namespace Go.Fb
open Go.RowKit
set_option maxRecDepth 100000
set_option maxHeartbeats 16000000
set_option linter.unusedVariables false
theorem step_app {P:Program} {w:World} {ops:Array Oper} {o:Oper} {a:Act} {K:Act->World->Prop} {Q:Exit->Act->World->Prop} {E:Prop} (hgd:o.guard=none) (s x:Operand) {t e size bytes:Nat} (T:SliceTy P t e size bytes)
  (ho:o.op=.call { callee:=.builtin .append,args:=#[s,x],argTypes:=#[t,t] })
  (base:Nat) (v:Value) (n:Nat) (xs:List Value) (hs:a.eval s=v) (hown:w.ownsRow base e size v n xs)
  (B:Nat) (A:Option Addr) (m c:Nat) (news:List Value) (hx:a.eval x=.slice A m c) (hr:Reads w B size A m news) (h1:∀ u ∈ news,u.oneCell'=true)
  (h63:n+m<=1073741824) (hb:bytes<=131072) (hbase:base<=w.heap.size)
  (h : ∀ A' c' w', w'.ownsRow base e size (.slice A' (n + m) c') (n + m) (xs ++ news) -> w.grownBy w' v.ownBlock ->
   (Value.ownBlock (.slice A' (n+m) c')=v.ownBlock \/ Value.ownBlock (.slice A' (n+m) c')=some w.heap.size)->K (a.put o.dst (.slice A' (n+m) c')) w') :
  if Region.wanted o (yielded ops a.tmps)=true then Oper.wp P o a w K Q else E:=by
 have hw:Region.wanted o (yielded ops a.tmps)=true:=(by simp [Region.wanted,hgd]);rw [if_pos hw];exact wp_app w s x T ho base v n xs hs hown B A m c news hx hr h1 h63 hb hbase h
end Go.Fb
namespace Go.Proofs.YtlejomlppjpchaaGreat
open Go.RowKit Go.Fb
set_option maxRecDepth 100000
set_option maxHeartbeats 16000000
set_option linter.unusedVariables false
theorem entTy:SliceTy Tryz.prog 38 111 6 48:=SliceTy.mk' (z:=.agg #[.int .i64 0,.int .i64 0,.int .i64 0,.int .i64 0,.int .i64 0,.int .i64 0]) Tryz.underlying38 (by kernel_rfl) rfl (by omega)
def CapN (M:List Ndm):Prop:=∀ m ∈ M,∀ A n c,m.2.1=.slice A n c->n<=c
end Go.Proofs.YtlejomlppjpchaaGreat
