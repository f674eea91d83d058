/- Texts merged into one, for the number of files a claim may have: W, Col, LkP, AlignA, Lk, Octet, Reader, OctetRef, Code, Arr, RouteA, RouteB, Nd, CtM, ArrEq, EntEq, Parts, Mul, CapN. -/
import Derived.Test.YtgblfflikgnfpaaGreatTY0
import Derived.BigQuiet
import Derived.Deep.AppendLies
import Derived.Lib.Hide
import Derived.Test.YtgblfflikgnfpaaGreatRows
import Derived.WalkLawsBesides
import Derived.WalkSpells
import Derived.WideKeyEntry
namespace Go.Fb
open Go.RowKit
set_option maxRecDepth 100000
set_option maxHeartbeats 16000000
set_option linter.unusedVariables false
set_option linter.unnecessarySimpa false
structure Fr (B:Nat) (L:List Nat) (w w':World):Prop where
 os:w'.os=w.os
 tape:w'.tape=w.tape
 output:w'.output=w.output
 size:w.heap.size<=w'.heap.size
 block:∀ k,k < B->k ∉ L->w'.heap[k]?=w.heap[k]?

theorem Fr.refl (B:Nat) (L:List Nat) (w:World):Fr B L w w:=⟨rfl,rfl,rfl,Nat.le_refl _,fun _ _ _=>rfl⟩
theorem Fr.trans {B:Nat} {L:List Nat} {a b c:World} (h:Fr B L a b) (k:Fr B L b c):Fr B L a c :=
 ⟨k.os.trans h.os,k.tape.trans h.tape,k.output.trans h.output,Nat.le_trans h.size k.size,fun i hi hn=>(k.block i hi hn).trans (h.block i hi hn)⟩
theorem Fr.mono {B B':Nat} {L L':List Nat} {w w':World} (h:Fr B L w w') (hB:B'<=B) (hL:∀ k,k ∈ L->k < B'->k ∈ L'):Fr B' L' w w' :=
 ⟨h.os,h.tape,h.output,h.size,fun k hk hn=>h.block k (Nat.lt_of_lt_of_le hk hB) (fun hm=>hn (hL k hm hk))⟩
theorem Fr.nx {a b c:World} {L:List Nat} (h:Fr a.heap.size [] a b) (k:Fr b.heap.size L b c) (hL:∀ q,q ∈ L->q < a.heap.size->q ∈ ([]:List Nat):=by simp):Fr a.heap.size [] a c:=h.trans (k.mono h.size hL)
theorem nm {α:Sort _} (a:α):∃ v,v=a:=⟨a,rfl⟩
theorem zh {p:Prop} (h:p):RowKit.Hid p:=h
theorem lPt {α:Type}:(∀ (l:List α) (i:Nat) (a:α),l.toArray.setIfInBounds i a=(l.set i a).toArray)/\(∀ (x a:α) (l:List α),(a :: l).set 0 x=x :: l)/\(∀ (x a:α) (l:List α) (i:Nat),(a :: l).set (i+1) x=a :: l.set i x):=⟨fun l i a=>by simp,fun _ _ _=>rfl,fun _ _ _ _=>rfl⟩
theorem Fr.drew {B:Nat} {L:List Nat} {a w:World} (h:Fr B L a w):Fr B L a w.drew:=⟨h.os,h.tape,h.output,h.size,h.block⟩
theorem Fr.drewN {B:Nat} {L:List Nat} {a w:World} (h:Fr B L a w) (n:Nat):Fr B L a (w.drewN n):=⟨h.os,h.tape,h.output,h.size,h.block⟩
theorem Fr.alloc {B:Nat} {L:List Nat} {a w:World} (h:Fr B L a w) (hB:B<=w.heap.size) (o:Obj):Fr B L a (w.alloc o) :=
 h.trans ⟨rfl,rfl,rfl,by simp,fun k hk _=>Below.heap_alloc _ _ _ (by omega)⟩
theorem Fr.setCell {B:Nat} {L:List Nat} {a w:World} (h:Fr B L a w) {p:Addr} (hp:B<=p.block \/ p.block ∈ L) (u:Value):Fr B L a (w.setCell p u) :=
 h.trans ⟨rfl, rfl, rfl, by simp [World.setCell], fun k hk hn => Below.heap_setCell _ _ _ _ (by
  rintro rfl
  rcases hp with hp | hp
  · omega
  · exact hn hp)⟩
theorem Fr.grown {B:Nat} {L:List Nat} {a w w':World} {row:Option Nat} (h:Fr B L a w) (hg:w.grownBy w' row) (hB:B<=w.heap.size) (hr:∀ k,row=some k->B<=k \/ k ∈ L):Fr B L a w' :=
 h.trans ⟨hg.os, hg.tape, hg.output, hg.size, fun k hk hn => hg.block k (by omega) (fun e => by
  rcases hr k e.symm with h | h
  · omega
  · exact hn h)⟩
theorem Fr.of_below {B:Nat} {L:List Nat} {w w':World} (h:Below B w w'):Fr B L w w':=⟨h.os,h.tape,h.output,h.size,fun k hk _=>h.block k hk⟩
theorem Fr.below {B:Nat} {w w':World} (h:Fr B [] w w'):Below B w w':=⟨h.os,h.tape,h.output,h.size,fun k hk=>h.block k hk (by simp)⟩
theorem Fr.cell {B:Nat} {L:List Nat} {w w':World} (h:Fr B L w w') {p:Addr} (hp:p.block < B) (hn:p.block ∉ L):w'.cell? p=w.cell? p:=World.cell?_of_block (w:=w) (h.block p.block hp hn)
theorem Fr.frozen {B:Nat} {L:List Nat} {w w':World} (h:Fr B L w w') {p:Addr} (hp:p.block < B) (hn:p.block ∉ L):w'.frozen? p=w.frozen? p:=World.frozen?_of_block (w:=w) (h.block p.block hp hn)

def Blk (w:World) (g:Nat) (t:TypeId) (cs:Array Value):Prop:=w.heap[g]?=some (.cells cs t (0,0))
section
variable {w w':World} {g:Nat} {t:TypeId} {cs:Array Value}
theorem Blk.lt (h:Blk w g t cs):g < w.heap.size:=by
 rcases Nat.lt_or_ge g w.heap.size with hlt | hge
 · exact hlt
 · unfold Blk at h;rw [Array.getElem?_eq_none hge] at h;cases h
theorem Blk.cell (h:Blk w g t cs) (i:Nat):w.cell? ⟨g,i,none⟩=cs[i]?:=cell_of_row w g i cs t (0,0) h
theorem Blk.frozen (h:Blk w g t cs) (i:Nat):w.frozen? ⟨g,i,none⟩=false:=by
 unfold Blk at h;simp [World.frozen?,h]
theorem Blk.new (w:World) (t:TypeId) (cs:Array Value):Blk (w.alloc (.cells cs t)) w.heap.size t cs:=heap_alloc_new w _
theorem Blk.drew (h:Blk w g t cs):Blk w.drew g t cs:=h
theorem Blk.drewN (h:Blk w g t cs) (n:Nat):Blk (w.drewN n) g t cs:=h
theorem Blk.alloc (h:Blk w g t cs) (o:Obj):Blk (w.alloc o) g t cs:=(Below.heap_alloc w o g h.lt).trans h
theorem Blk.set_ (h:Blk w g t cs) (i:Nat) (u:Value):Blk (w.setCell ⟨g,i,none⟩ u) g t (cs.setIfInBounds i u):=by
 unfold Blk at h ⊢;simp [World.setCell,Array.getElem?_modify,h]
theorem Blk.far (h:Blk w g t cs) {p:Addr} (hp:g ≠ p.block) (u:Value):Blk (w.setCell p u) g t cs:=(Below.heap_setCell w p u g hp).trans h
theorem Blk.fr {B:Nat} {L:List Nat} (h:Blk w g t cs) (hb:Fr B L w w') (hg:g < B) (hn:g ∉ L):Blk w' g t cs:=(hb.block g hg hn).trans h
theorem Blk.grown {row:Option Nat} (h:Blk w g t cs) (hb:w.grownBy w' row) (hg:some g ≠ row):Blk w' g t cs:=(hb.block g h.lt hg).trans h
theorem Blk.ne_ {g':Nat} {t':TypeId} {cs':Array Value} (h:Blk w g t cs) (h':Blk w g' t' cs') (hne:t ≠ t'):g ≠ g':=by
 rintro rfl;unfold Blk at h h';rw [h] at h';injection h' with h'
 injection h' with _ ht
 exact hne ht
end

theorem ownsRow_fr {w w':World} {base e size n:Nat} {v:Value} {xs:List Value} {B:Nat} {L:List Nat} (h:w.ownsRow base e size v n xs) (hb:Fr B L w w') (hv:∀ k,v.ownBlock=some k->k < B/\k ∉ L):w'.ownsRow base e size v n xs:=by
 refine ⟨h.1,?_⟩
 rcases h.2 with hn | ⟨g,cap,cur,rfl,hbg,hgg,rest⟩
 · exact .inl hn
 · obtain ⟨h1,h2⟩:=hv g rfl;exact .inr ⟨g,cap,cur,rfl,hbg,(hb.block g h1 h2).trans hgg,rest⟩
theorem ownsRow_base {w:World} {base base' e size n:Nat} {v:Value} {xs:List Value} (h:w.ownsRow base e size v n xs) (hb:base'<=base):w.ownsRow base' e size v n xs:=by
 refine ⟨h.1,?_⟩
 rcases h.2 with hn | ⟨g,cap,cur,rfl,hbg,hgg,rest⟩
 · exact .inl hn
 · exact .inr ⟨g,cap,cur,rfl,by omega,hgg,rest⟩
theorem ownsRow_shape {w:World} {base e size n:Nat} {v:Value} {xs:List Value} (h:w.ownsRow base e size v n xs) :
  ∃ A c,v=.slice A n c/\(∀ ad,A=some ad->ad.off=0/\ad.spot=none/\base<=ad.block/\ad.block < w.heap.size)/\n<=c/\(A=none->n=0):=by
 rcases h.2 with ⟨rfl,rfl⟩ | ⟨g,cap,cur,rfl,hbg,hgg,hnc,_⟩
 · exact ⟨none,0,rfl,by simp,Nat.le_refl _,fun _=>rfl⟩
 ·
  refine ⟨some ⟨g,0,none⟩,cap,rfl,?_,hnc,by simp⟩;rintro ad hA;injection hA with hA
  subst hA;exact ⟨rfl,rfl,hbg,(Array.getElem?_eq_some_iff.1 hgg).1⟩

theorem block_of_add (a:Addr) (n:Nat):(a.add n).block=a.block:=by unfold Addr.add;split <;> rfl
def Reads (w:World) (B size:Nat) (A:Option Addr) (n:Nat) (xs:List Value):Prop :=
 xs.length=n * size/\(0 < n->∃ b off,A=some ⟨b,off,none⟩/\b < B /\ ∀ j u,xs[j]?=some u->w.cell? ⟨b,off+j,none⟩=some u)
section
variable {w w':World} {B B' size n:Nat} {A:Option Addr} {xs:List Value}
theorem Reads.none_:Reads w B size A 0 []:=⟨by simp,fun h=>absurd h (by omega)⟩
theorem Reads.keep (h:Reads w B size A n xs) (hk:∀ p:Addr,p.block < B->w'.cell? p=w.cell? p):Reads w' B size A n xs :=
 ⟨h.1, fun hn => by
  obtain ⟨b,off,e,hb,hc⟩:=h.2 hn
  exact ⟨b,off,e,hb,fun j u hu=>(hk _ hb).trans (hc j u hu)⟩⟩
theorem Reads.more (h:Reads w B size A n xs) (hB:B<=B'):Reads w B' size A n xs :=
 ⟨h.1, fun hn => by
  obtain ⟨b,off,e,hb,hc⟩:=h.2 hn
  exact ⟨b,off,e,by omega,hc⟩⟩
theorem Reads.fr {L:List Nat} (h:Reads w B size A n xs) (hb:Fr B' L w w') (hB:B<=B') (hL:∀ k ∈ L,B<=k):Reads w' B size A n xs :=
 h.keep fun p hp=>hb.cell (by omega) (fun hm=>by have:=hL _ hm;omega)
theorem Reads.frL {L:List Nat} (h:Reads w B size A n xs) (hb:Fr B' L w w') (hB:B<=B') (hL:0 < n -> ∀ ad,A=some ad->ad.block ∉ L):Reads w' B size A n xs :=
 ⟨h.1, fun hn => by
  obtain ⟨b,off,e,hb',hc⟩:=h.2 hn
  exact ⟨b,off,e,hb',fun j u hu=>(hb.cell (p:=⟨b,off+j,none⟩) (Nat.lt_of_lt_of_le hb' hB) (hL hn ⟨b,off,none⟩ e)).trans (hc j u hu)⟩⟩
theorem Reads.one {k:Nat} (h:Reads w B 1 A n xs) (hk:k < n):∃ b off u,A=some ⟨b,off,none⟩/\b < B/\xs[k]?=some u/\w.cell? ⟨b,off+k,none⟩=some u:=by
 obtain ⟨b,off,e,hb,hc⟩:=h.2 (by omega);have hl:k < xs.length:=(by have:=h.1;omega);exact ⟨b,off,xs[k],e,hb,List.getElem?_eq_getElem hl,hc k _ (List.getElem?_eq_getElem hl)⟩
theorem Reads.of_own {base:Nat} {e:TypeId} {c:Nat} (h:w.ownsRow base e size (.slice A n c) n xs):Reads w w.heap.size size A n xs:=by
 refine ⟨h.1,fun hn => ?_⟩;obtain ⟨g,cap,hv,_,hlt⟩:=h.form hn;have hA:A=some ⟨g,0,none⟩:=(by injection hv);subst hA;refine ⟨g,0,rfl,hlt,fun j u hu => ?_⟩;have:=h.cells (g:=g) rfl j u hu;unfold Addr.add at this
 split at this
 · rename_i h0;simpa [h0] using this
 · simpa using this
theorem Reads.of_blk {g:Nat} {t:TypeId} {cs:Array Value} {m:Nat} (h:Blk w g t cs) (hm:cs.size=m * size):Reads w (g+1) size (some ⟨g,0,none⟩) m cs.toList :=
 ⟨by simpa using hm,fun _=>⟨g,0,rfl,by omega,fun j u hu=>by rw [h.cell];simpa using hu⟩⟩
end

structure SliceTy (P:Program) (t e size bytes:Nat):Prop where
 ht:P.underlying t=some (.slice e)
 hi:∃ i z,P.info? e=some i/\i.zero=some z/\i.size=size/\i.bytes=bytes/\z.cells.size=size
 pos:0 < size
theorem SliceTy.mk' {P:Program} {t e size bytes:Nat} {z:Value} (ht:P.underlying t=some (.slice e)) (h:(P.info? e).map (fun i=>(i.zero,i.size,i.bytes))=some (some z,size,bytes)) (hz:z.cells.size=size) (hs:0 < size):SliceTy P t e size bytes:=by
 obtain ⟨i,h1,h2,h3,h4⟩:=info_parts h;exact ⟨ht,⟨i,z,h1,h2,h3,h4,hz⟩,hs⟩

section
variable {P:Program} (w:World)
theorem run_append_of_nil (base:Nat) (t ty e:TypeId) (i:TypeInfo) (size:Nat) (ht:P.underlying t=some (.slice e)) (hi:P.info? e=some i)
  (v:Value) (n:Nat) (xs:List Value) (hown:w.ownsRow base e size v n xs) (c:Nat):(Builtin.append_ #[t,t] ty #[v,.slice none 0 c]).run P w=.ok v w:=by
 rcases hown.2 with ⟨rfl,rfl⟩ | ⟨g,cap,cur,rfl,_,_,hnc,_⟩
 · simp [Builtin.append_,run_underlying ht,sizeOf,typeInfo,hi,Builtin.lenOf,Builtin.firstCells]
 · simp [Builtin.append_,run_underlying ht,sizeOf,typeInfo,hi,Builtin.lenOf,Builtin.firstCells,hnc,storeCells]

theorem run_app {t e size bytes:Nat} (T:SliceTy P t e size bytes) (ty:TypeId) (base:Nat) (v:Value) (n:Nat) (xs:List Value) (hown:w.ownsRow base e size v n xs)
  (B:Nat) (A:Option Addr) (m c:Nat) (news:List Value) (hr:Reads w B size A m news) (h1:∀ u ∈ news,u.oneCell'=true)
  (h63:n+m<=1073741824) (hb:bytes<=131072) (hbase:base<=w.heap.size) :
  ∃ A' c' w',(Builtin.append_ #[t,t] ty #[v,.slice A m c]).run P w=.ok (.slice A' (n+m) c') w'/\w'.ownsRow base e size (.slice A' (n+m) c') (n+m) (xs ++ news)/\w.grownBy w' v.ownBlock /\
   (Value.ownBlock (.slice A' (n+m) c')=v.ownBlock \/ Value.ownBlock (.slice A' (n+m) c')=some w.heap.size):=by
 obtain ⟨i,z,hi,hz,hsize,hby,hzs⟩:=T.hi;have hml:n+m<=maxLen:=(by unfold maxLen;omega);have hbytes:(n+m) * bytes<=140737488355328:=Nat.le_trans (Nat.mul_le_mul h63 hb) (by decide)
 have hcells:∀ ad,A=some ad -> ∀ j u,news[j]?=some u->w.cell? (ad.add j)=some u:=by
  rintro ad rfl j u hu
  rcases Nat.eq_zero_or_pos m with h0 | h0
  · subst h0;have hn:news=[]:=List.eq_nil_of_length_eq_zero (by simpa using hr.1);subst hn;simp at hu
  ·
   obtain ⟨b,off,h,_,hc⟩:=hr.2 h0;injection h with h
   subst h;have:(⟨b,off,none⟩:Addr).add j=⟨b,off+j,none⟩:=by unfold Addr.add;split <;> simp_all
   rw [this];exact hc j u hu
 have key:∃ v' w',(Builtin.append_ #[t,t] ty #[v,.slice A m c]).run P w=.ok v' w'/\w'.ownsRow base e size v' (n+m) (xs ++ news)/\w.grownBy w' v.ownBlock/\(v'.ownBlock=v.ownBlock \/ v'.ownBlock=some w.heap.size):=by
  rcases A with _ | ad
  ·
   have hm:m=0:=by
    rcases Nat.eq_zero_or_pos m with h0 | h0
    · exact h0
    ·
     obtain ⟨b,off,h,_⟩:=hr.2 h0
     cases h
   subst hm;have hn:news=[]:=List.eq_nil_of_length_eq_zero (by simpa using hr.1);subst hn;exact ⟨v,w,run_append_of_nil w base t ty e i size T.ht hi v n xs hown c,by simpa using hown,⟨rfl,rfl,rfl,Nat.le_refl _,fun _ _ _=>rfl⟩,.inl rfl⟩
  · obtain ⟨v',w',hrun,h2,h3,_,h5⟩:=run_append_own_at (P:=P) w base t ty e i z size bytes T.ht hi hz hsize hby hzs T.pos v n xs hown ad m c news hr.1 (hcells ad rfl) h1 hml hbytes hbase;exact ⟨v',w',hrun,h2,h3,h5⟩
 obtain ⟨v',w',hrun,h2,h3,h4⟩:=key;obtain ⟨A',c',rfl,_⟩:=ownsRow_shape h2;exact ⟨A',c',w',hrun,h2,h3,h4⟩

theorem wp_app {o:Oper} {a:Act} {K:Act->World->Prop} {Q:Exit->Act->World->Prop} (s x:Operand) {t e size bytes:Nat} (T:SliceTy P t e size bytes)
  (ho:o.op=.call { callee:=.builtin .append,args:=#[s,x],argTypes:=#[t,t] })
  (base:Nat) (v:Value) (n:Nat) (xs:List Value) (hs:a.eval s=v) (hown:w.ownsRow base e size v n xs)
  (B:Nat) (A:Option Addr) (m c:Nat) (news:List Value) (hx:a.eval x=.slice A m c) (hr:Reads w B size A m news) (h1:∀ u ∈ news,u.oneCell'=true)
  (h63:n+m<=1073741824) (hb:bytes<=131072) (hbase:base<=w.heap.size)
  (h : ∀ A' c' w', w'.ownsRow base e size (.slice A' (n + m) c') (n + m) (xs ++ news) -> w.grownBy w' v.ownBlock ->
   (Value.ownBlock (.slice A' (n+m) c')=v.ownBlock \/ Value.ownBlock (.slice A' (n+m) c')=some w.heap.size)->K (a.put o.dst (.slice A' (n+m) c')) w'):o.wp P a w K Q:=by
 obtain ⟨A',c',w',hrun,h2,h3,h4⟩:=run_app (P:=P) w T o.type base v n xs hown B A m c news hr h1 h63 hb hbase;unfold Oper.wp execOp;simp only [ho,resolve,invoke,builtin,Sem.run_bind,Sem.run_pure,Result.andThen_ok,List.map_toArray,List.map_cons,List.map_nil,hs,hx,hrun];exact h A' c' w' h2 h3 h4

theorem wpList_app {ops:Array Oper} {rest:List Oper} {o:Oper} {a:Act} {Q:Exit->Act->World->Prop} (hgd:o.guard=none) (s x:Operand) {t e size bytes:Nat} (T:SliceTy P t e size bytes)
  (ho:o.op=.call { callee:=.builtin .append,args:=#[s,x],argTypes:=#[t,t] })
  (base:Nat) (v:Value) (n:Nat) (xs:List Value) (hs:a.eval s=v) (hown:w.ownsRow base e size v n xs)
  (B:Nat) (A:Option Addr) (m c:Nat) (news:List Value) (hx:a.eval x=.slice A m c) (hr:Reads w B size A m news) (h1:∀ u ∈ news,u.oneCell'=true)
  (h63:n+m<=1073741824) (hb:bytes<=131072) (hbase:base<=w.heap.size)
  (h : ∀ A' c' w', w'.ownsRow base e size (.slice A' (n + m) c') (n + m) (xs ++ news) -> w.grownBy w' v.ownBlock ->
   (Value.ownBlock (.slice A' (n+m) c')=v.ownBlock \/ Value.ownBlock (.slice A' (n+m) c')=some w.heap.size)->wpList P ops Q rest (a.put o.dst (.slice A' (n+m) c')) w'):wpList P ops Q (o :: rest) a w :=
 wpList_plain hgd fun _ hK=>wp_app w s x T ho base v n xs hs hown B A m c news hx hr h1 h63 hb hbase fun A' c' w' h2 h3 h4=>hK _ _ (h A' c' w' h2 h3 h4)
end

theorem wpList_app_lit {P:Program} (w:World) {ops:Array Oper} {rest:List Oper} {o:Oper} {a:Act} {Q:Exit->Act->World->Prop} (hgd:o.guard=none) (s x:Operand) {t e size bytes:Nat} (T:SliceTy P t e size bytes)
  (ho:o.op=.call { callee:=.builtin .append,args:=#[s,x],argTypes:=#[t,t] })
  (base:Nat) (v:Value) (n:Nat) (xs:List Value) (hs:a.eval s=v) (hown:w.ownsRow base e size v n xs)
  (m c:Nat) (news:Array Value) (hx:a.eval x=.slice (some ⟨w.heap.size,0,none⟩) m c) (hm:news.size=m * size) (h1:∀ u ∈ news.toList,u.oneCell'=true)
  (h63:n+m<=1073741824) (hb:bytes<=131072) (hbase:base<=w.heap.size)
  (h : ∀ A' c' w', w'.ownsRow base e size (.slice A' (n + m) c') (n + m) (xs ++ news.toList) -> (w.alloc (.cells news e)).grownBy w' v.ownBlock ->
   (Value.ownBlock (.slice A' (n+m) c')=v.ownBlock \/ Value.ownBlock (.slice A' (n+m) c')=some (w.heap.size+1))->wpList P ops Q rest (a.put o.dst (.slice A' (n+m) c')) w'):wpList P ops Q (o :: rest) a (w.alloc (.cells news e)) :=
 wpList_app _ hgd s x T ho base v n xs hs (hown.alloc _) (w.heap.size+1) _ m c news.toList hx (Reads.of_blk (Blk.new w e news) hm) h1 h63 hb (by simp;omega) (fun A' c' w' h2 h3 h4=>h A' c' w' h2 h3 (by simpa using h4))

theorem ownsRow_setCell_other {w:World} {base e size n:Nat} {v:Value} {xs:List Value} (h:w.ownsRow base e size v n xs) {p:Addr} (hp:v.ownBlock ≠ some p.block) (u:Value):(w.setCell p u).ownsRow base e size v n xs:=by
 refine ⟨h.1,?_⟩
 rcases h.2 with hn | ⟨g,cap,cur,rfl,hbg,hgg,rest⟩
 · exact .inl hn
 · exact .inr ⟨g,cap,cur,rfl,hbg,(Below.heap_setCell w p u g (fun e=>hp (by simp [Value.ownBlock,e]))).trans hgg,rest⟩
theorem Blk.ne_own {w:World} {g t:Nat} {cs:Array Value} {base e size n:Nat} {v:Value} {xs:List Value} (hb:Blk w g t cs) (h:w.ownsRow base e size v n xs) (hne:e ≠ t):some g ≠ v.ownBlock:=by
 intro he
 rcases h.2 with ⟨rfl,_⟩ | ⟨g',cap,cur,rfl,_,hgg,_⟩
 · cases he
 ·
  have he':g=g':=by simpa [Value.ownBlock] using he
  subst he';unfold Blk at hb;rw [hgg] at hb;injection hb with hb
  injection hb with _ ht
  exact hne ht
theorem run_convert_own {P:Program} {w:World} {src e dst:TypeId} (hs:P.underlying src=some (.slice e)) (he:P.underlying e=some (.int .u8)) (hd:P.underlying dst=some .string) {base n:Nat} {v:Value} {bs:List Int}
  (h:w.ownsRow base e 1 v n (bs.map (Value.int .u8))):(convert src dst v).run P w=.ok (.string (strOfNums bs)) w:=by
 have hl:bs.length=n:=(by simpa using h.1)
 rcases h.2 with ⟨rfl,rfl⟩ | ⟨g,cap,cur,rfl,_,hgg,_⟩
 · have:bs=[]:=List.eq_nil_of_length_eq_zero hl;subst this;rw [run_convert_bytes_nil w src e hs he 0 0 dst hd];rfl
 ·
  refine run_convert_bytes_arg w src e hs he g 0 n cap bs hl (fun i hi => ?_) dst hd
  have hx := h.cells (g := g) rfl i (.int .u8 (bs.getD i 0)) (by
   rw [List.getElem?_map,List.getElem?_eq_getElem (by omega)]
   simp [List.getD,List.getElem?_eq_getElem (show i < bs.length by omega)])
  have:(⟨g,0,none⟩:Addr).add i=⟨g,0+i,none⟩:=by unfold Addr.add;split <;> simp_all
  rw [<- this];exact hx
def bl (s:ByteArray):List Int:=s.data.toList.map fun b=>(b.toNat:Int)
theorem bl_length (s:ByteArray):(bl s).length=s.size:=by
 unfold bl;rw [List.length_map,Array.length_toList];rfl
theorem bl_range (s:ByteArray):∀ x ∈ bl s,0<=x/\x < 256:=by
 intro x hx;obtain ⟨b,_,rfl⟩:=List.mem_map.1 hx;have:=b.toNat_lt;omega
theorem bl_inj {s t:ByteArray} (h:bl s=bl t):s=t:=by
 apply WideShapes.bytes_inj;have hf:∀ {a b:UInt8},((a.toNat:Nat):Int)=(b.toNat:Int)->a=b:=fun h=>UInt8.toNat_inj.1 (by omega);generalize hs:s.data.toList=x at *;generalize ht:t.data.toList=y at *;unfold bl at h;rw [hs,ht] at h;clear hs ht
 induction x generalizing y with
 | nil=>cases y with
  | nil=>rfl
  | cons b y=>simp at h
 | cons a x ih=>cases y with
  | nil=>simp at h
  | cons b y =>
   simp only [List.map_cons,List.cons.injEq] at h;rw [hf h.1,ih y h.2]
theorem bl_strOfNums {l:List Int} (h:∀ x ∈ l,0<=x/\x < 256):bl (strOfNums l)=l:=by
 unfold bl;rw [strOfNums_data,List.map_map]
 conv=>rhs;rw [<- List.map_id l]
 apply List.map_congr_left;intro x hx;have:=h x hx;simp only [Function.comp,UInt8.toNat_ofNat',id];omega
theorem bl_extract (s:ByteArray) (a b:Nat):bl (s.extract a b)=((bl s).take b).drop a:=by
 have h:(s.extract a b).data.toList=(s.data.toList.take b).drop a:=by
  rw [ByteArray.data_extract,Array.toList_extract,List.extract_eq_take_drop,List.drop_take]
 unfold bl;rw [h,<- List.map_take,<- List.map_drop]
theorem conv_bytes {P:Program} {w:World} {src dst e:TypeId} (s:ByteArray) (hs:P.underlying src=some .string) (hd:P.underlying dst=some (.slice e)) (he:P.underlying e=some (.int .u8)) :
  ∃ c w',(convert src dst (.string s)).run P w=.ok (.slice (some ⟨w.heap.size,0,none⟩) s.size c) w'/\Reads w' (w.heap.size+1) 1 (some ⟨w.heap.size,0,none⟩) s.size ((bl s).map (Value.int .u8))/\Fr w.heap.size [] w w'/\w'.heap.size=w.heap.size+1/\s.size<=c:=by
 refine ⟨_,_,run_bytes_of_string w src dst e s hs hd he,⟨by simp [bl_length],fun _=>⟨_,0,rfl,by omega,fun j u hu => ?_⟩⟩,?_,by simp,grownCap_ge _ _ _ _⟩
 ·
  have hj:j < (bl s).length:=by
   rcases Nat.lt_or_ge j (bl s).length with h | h
   · exact h
   · rw [List.getElem?_eq_none (by simpa using h)] at hu;cases hu
  have hb:_=_:=heap_alloc_new w.drew (.cells (bytesRow s (grownCap w s.size 0 e)) e ((bytesRow s (grownCap w s.size 0 e)).size,(bytesRow s (grownCap w s.size 0 e)).size+1));refine (cell_of_row _ _ _ _ _ _ hb).trans ?_;rw [bl_length] at hj;rw [<- hu,Nat.zero_add];simp [bytesRow,bl,Array.getElem?_append,hj,Function.comp_def]
 · exact ⟨rfl,rfl,rfl,by simp,fun k hk _=>Below.heap_alloc w.drew _ k hk⟩
theorem Fr.of_app {w w':World} {o:Obj} {base:Nat} {v:Value} {e size n:Nat} {xs:List Value} (hg:(w.alloc o).grownBy w' v.ownBlock) (hown:w.ownsRow base e size v n xs) (hbase:base<=w.heap.size):Fr base [] w w' :=
 (((Fr.refl base [] w).alloc hbase o).grown hg (by simp;omega) (fun k hk=>.inl (hown.lt k hk).1))

theorem run_index_arr {P:Program} {t e:TypeId} {len:Nat} {kd kd':IntKind} {i:TypeInfo} (ht:P.underlying t=some (.array len e)) (he:P.underlying e=some (.int kd')) (hi:P.info? e=some i) (hs:i.size=1)
  {cs:Array Value} {k:Nat} (hk:k < len) {v:Value} (hv:cs[k]?=some v) (w:World):(Instr.index t (.agg cs) (.int kd (k:Int))).run P w=.ok v w:=by
 simp [Instr.index,asIntOf,run_underlying ht,run_underlying he,sizeOf,typeInfo,hi,hs,part,isAgg,hv];omega
end Go.Fb
namespace Go.Fb
open Go.RowKit
set_option maxRecDepth 100000
set_option maxHeartbeats 16000000
set_option linter.unusedVariables false
set_option linter.unnecessarySimpa false
structure Cg (C:Nat->Prop) (col:Nat->Nat) (w:World) (col':Nat->Nat) (w':World):Prop where
 os:w'.os=w.os
 tape:w'.tape=w.tape
 output:w'.output=w.output
 size:w.heap.size<=w'.heap.size
 same:∀ q,q < w.heap.size->col' q=col q
 block:∀ q,q < w.heap.size->¬ C (col q)->w'.heap[q]?=w.heap[q]?
section
variable {C C':Nat->Prop} {col col' col'':Nat->Nat} {w w' w'':World}
theorem Cg.refl (C:Nat->Prop) (col:Nat->Nat) (w:World):Cg C col w col w:=⟨rfl,rfl,rfl,Nat.le_refl _,fun _ _=>rfl,fun _ _ _=>rfl⟩
theorem Cg.trans (h:Cg C col w col' w') (k:Cg C col' w' col'' w''):Cg C col w col'' w'' :=
 ⟨k.os.trans h.os, k.tape.trans h.tape, k.output.trans h.output, Nat.le_trans h.size k.size, fun q hq => (k.same q (Nat.lt_of_lt_of_le hq h.size)).trans (h.same q hq),
  fun q hq hn=>(k.block q (Nat.lt_of_lt_of_le hq h.size) (by rw [h.same q hq];exact hn)).trans (h.block q hq hn)⟩
theorem Cg.mono (h:Cg C col w col' w') (hC:∀ c,C c->C' c):Cg C' col w col' w':=⟨h.os,h.tape,h.output,h.size,h.same,fun q hq hn=>h.block q hq fun hc=>hn (hC _ hc)⟩
theorem Cg.of_fr {L:List Nat} (h:Fr w.heap.size L w w') (hL:∀ q ∈ L,C (col q)):Cg C col w col w' :=
 ⟨h.os,h.tape,h.output,h.size,fun _ _=>rfl,fun q hq hn=>h.block q hq fun hm=>hn (hL q hm)⟩
theorem Cg.drew (h:Cg C col w col' w'):Cg C col w col' w'.drew:=⟨h.os,h.tape,h.output,h.size,h.same,h.block⟩
theorem Cg.fr (h:Cg C col w col' w') {B:Nat} (hB:B<=w.heap.size) (h0:∀ q,q < B->¬ C (col q)):Fr B [] w w' :=
 ⟨h.os,h.tape,h.output,h.size,fun q hq _=>h.block q (Nat.lt_of_lt_of_le hq hB) (h0 q hq)⟩
def paint (col:Nat->Nat) (n c:Nat):Nat->Nat:=fun q=>if q < n then col q else c
theorem paint_lt {n c q:Nat} (h:q < n):paint col n c q=col q:=by unfold paint;rw [if_pos h]
theorem paint_ge {n c q:Nat} (h:n<=q):paint col n c q=c:=by unfold paint;rw [if_neg (by omega)]
theorem Cg.paint (h:Cg C col w col w') (c:Nat):Cg C col w (paint col w.heap.size c) w':=⟨h.os,h.tape,h.output,h.size,fun q hq=>paint_lt hq,h.block⟩
theorem Cg.of_fr_new {L:List Nat} (h:Fr w.heap.size L w w') (hL:∀ q ∈ L,C (col q)) (c:Nat):Cg C col w (Fb.paint col w.heap.size c) w':=(Cg.of_fr h hL).paint c

theorem Cg.then_fr {L:List Nat} (h:Cg C col w col' w') (k:Fr w'.heap.size L w' w'') (hL:∀ q ∈ L,C (col' q)):Cg C col w col' w'':=h.trans (Cg.of_fr k hL)
theorem Cg.set (h:Cg C col w col' w') {p:Addr} (hp:C (col' p.block)) (u:Value):Cg C col w col' (w'.setCell p u) :=
 h.then_fr (L:=[p.block]) ((Fr.refl _ _ _).setCell (.inr (by simp)) u) (by simpa using hp)
theorem Cg.new (h:Cg C col w col' w') (o:Obj):Cg C col w col' (w'.alloc o):=h.then_fr (L:=[]) ((Fr.refl _ _ _).alloc (Nat.le_refl _) o) (by simp)
theorem Cg.repaint (h:Cg C col w col' w') (n c:Nat) (hn:w.heap.size<=n):Cg C col w (Fb.paint col' n c) w':=⟨h.os,h.tape,h.output,h.size,fun q hq=>(paint_lt (by omega)).trans (h.same q hq),h.block⟩
structure CB (col:Nat->Nat) (c:Nat) (w:World) (g:Nat) (t:TypeId) (cs:Array Value):Prop where
 b:Blk w g t cs
 k:col g=c
theorem CB.cg {c g:Nat} {t:TypeId} {cs:Array Value} (h:CB col c w g t cs) (k:Cg C col w col' w') (hc:¬ C c):CB col' c w' g t cs :=
 ⟨(k.block g h.b.lt (by rw [h.k];exact hc)).trans h.b,(k.same g h.b.lt).trans h.k⟩
def CRd (col:Nat->Nat) (c:Nat) (w:World) (size:Nat) (A:Option Addr) (n:Nat) (xs:List Value):Prop :=
 Reads w w.heap.size size A n xs /\ ∀ a,A=some a->0 < n->col a.block=c
theorem CRd.cg {c size n:Nat} {A:Option Addr} {xs:List Value} (h:CRd col c w size A n xs) (k:Cg C col w col' w') (hc:¬ C c):CRd col' c w' size A n xs:=by
 refine ⟨⟨h.1.1,fun hn => ?_⟩,fun a ha hn => ?_⟩
 · obtain ⟨b,off,rfl,hb,hcell⟩:=h.1.2 hn;refine ⟨b,off,rfl,Nat.lt_of_lt_of_le hb k.size,fun j u hu => ?_⟩;rw [<- hcell j u hu];exact World.cell?_of_block (w:=w) (a:=⟨b,off+j,none⟩) (k.block b hb (by have:=h.2 _ rfl hn;simp only at this;rw [this];exact hc))
 ·
  obtain ⟨b,off,e,hb,_⟩:=h.1.2 hn;rw [ha] at e;injection e with e
  rw [e];have:=h.2 _ (ha.trans (by rw [e])) hn;exact (k.same b hb).trans this
theorem CRd.none_ (c:Nat) (size:Nat) (A:Option Addr):CRd col c w size A 0 []:=⟨⟨by simp,fun h=>absurd h (by omega)⟩,fun _ _ h=>absurd h (by omega)⟩

def RowO (w:World) (e size:Nat) (v:Value) (n:Nat) (xs:List Value):Prop :=
 xs.length = n * size /\ ((v = .slice none 0 0 /\ n = 0) \/
  ∃ g off cap cur,v=.slice (some ⟨g,off,none⟩) n cap/\w.heap[g]?=some (.cells cur e (0,0))/\n<=cap/\cap<=maxLen/\off+cap * size<=cur.size/\(cur.toList.drop off).take (n * size)=xs)
theorem RowO.nil (w:World) (e size:Nat):RowO w e size (.slice none 0 0) 0 []:=⟨by simp,.inl ⟨rfl,rfl⟩⟩
theorem RowO.of_own {base e size n:Nat} {v:Value} {xs:List Value} (h:w.ownsRow base e size v n xs):RowO w e size v n xs:=by
 refine ⟨h.1,?_⟩
 rcases h.2 with hn | ⟨g,cap,cur,rfl,_,hg,h1,h2,h3,h4⟩
 · exact .inl hn
 · exact .inr ⟨g,0,cap,cur,rfl,hg,h1,h2,by omega,by simpa using h4⟩
theorem RowO.shape {e size n:Nat} {v:Value} {xs:List Value} (h:RowO w e size v n xs):∃ A c,v=.slice A n c/\(∀ ad,A=some ad->ad.spot=none/\ad.block < w.heap.size)/\n<=c/\c<=maxLen/\(A=none->n=0/\c=0):=by
 rcases h.2 with ⟨rfl,rfl⟩ | ⟨g,off,cap,cur,rfl,hg,h1,h2,_⟩
 · exact ⟨none,0,rfl,by simp,Nat.le_refl _,by simp [maxLen],fun _=>⟨rfl,rfl⟩⟩
 ·
  refine ⟨_,cap,rfl,?_,h1,h2,by simp⟩;rintro ad hA;injection hA with hA
  subst hA;exact ⟨rfl,(Array.getElem?_eq_some_iff.1 hg).1⟩
theorem RowO.reads {e size n c:Nat} {A:Option Addr} {xs:List Value} (h:RowO w e size (.slice A n c) n xs):Reads w w.heap.size size A n xs:=by
 refine ⟨h.1,fun hn => ?_⟩
 rcases h.2 with ⟨_,h0⟩ | ⟨g,off,cap,cur,hv,hg,h1,h2,h3,h4⟩
 · omega
 ·
  injection hv with hA _ _
  refine ⟨g,off,hA,(Array.getElem?_eq_some_iff.1 hg).1,fun j u hu=>(cell_of_row w g (off+j) cur e (0,0) hg).trans ?_⟩;rw [<- h4,List.getElem?_take] at hu
  split at hu
  · rw [List.getElem?_drop] at hu;simpa using hu
  · cases hu
theorem RowO.same {e size n:Nat} {v:Value} {xs:List Value} (h:RowO w e size v n xs) (hs:∀ g,v.ownBlock=some g->w'.heap[g]?=w.heap[g]?):RowO w' e size v n xs:=by
 refine ⟨h.1,?_⟩
 rcases h.2 with hn | ⟨g,off,cap,cur,rfl,hg,rest⟩
 · exact .inl hn
 · exact .inr ⟨g,off,cap,cur,rfl,(hs g rfl).trans hg,rest⟩
theorem RowO.lt {e size n:Nat} {v:Value} {xs:List Value} (h:RowO w e size v n xs) {g:Nat} (hv:v.ownBlock=some g):g < w.heap.size:=by
 rcases h.2 with ⟨rfl,rfl⟩ | ⟨g',off,cap,cur,rfl,hg,_⟩
 · cases hv
 ·
  injection hv with hv
  subst hv;exact (Array.getElem?_eq_some_iff.1 hg).1
structure CR (col:Nat->Nat) (c:Nat) (w:World) (e size:Nat) (v:Value) (n:Nat) (xs:List Value):Prop where
 r:RowO w e size v n xs
 k:∀ g,v.ownBlock=some g->col g=c
theorem CR.cg {c e size n:Nat} {v:Value} {xs:List Value} (h:CR col c w e size v n xs) (k:Cg C col w col' w') (hc:¬ C c):CR col' c w' e size v n xs :=
 ⟨h.r.same fun g hg=>k.block g (h.r.lt hg) (by rw [h.k g hg];exact hc),fun g hg=>(k.same g (h.r.lt hg)).trans (h.k g hg)⟩
theorem CR.keep {c e size n:Nat} {v:Value} {xs:List Value} (h:CR col c w e size v n xs) (hs:∀ g,v.ownBlock=some g->w'.heap[g]?=w.heap[g]?):CR col c w' e size v n xs:=⟨h.r.same hs,h.k⟩
theorem CR.far {c e size n:Nat} {v:Value} {xs:List Value} (h:CR col c w e size v n xs) {p:Addr} (hp:some p.block ≠ v.ownBlock) (u:Value):CR col c (w.setCell p u) e size v n xs :=
 h.keep fun g hg=>Below.heap_setCell w p u g fun e=>hp (by rw [hg,e])
theorem CR.alloc {c e size n:Nat} {v:Value} {xs:List Value} (h:CR col c w e size v n xs) (o:Obj):CR col c (w.alloc o) e size v n xs:=h.keep fun g hg=>Below.heap_alloc w o g (h.r.lt hg)
theorem CR.drew {c e size n:Nat} {v:Value} {xs:List Value} (h:CR col c w e size v n xs):CR col c w.drew e size v n xs:=⟨h.r,h.k⟩
theorem CR.nil (col:Nat->Nat) (c:Nat) (w:World) (e size:Nat):CR col c w e size (.slice none 0 0) 0 []:=⟨RowO.nil w e size,fun _ h=>by cases h⟩
theorem CR.rd {c e size n cp:Nat} {A:Option Addr} {xs:List Value} (h:CR col c w e size (.slice A n cp) n xs):CRd col c w size A n xs:=by
 refine ⟨h.r.reads,?_⟩;rintro a rfl _;exact h.k _ rfl
theorem RowO.from_ {e size n c k:Nat} {A:Option Addr} {xs:List Value} (h:RowO w e size (.slice A n c) n xs) (hk:k<=n):RowO w e size (.slice (if c=k then A else A.map (·.add (k * size))) (n - k) (c - k)) (n - k) (xs.drop (k * size)):=by
 have hl:=h.1;refine ⟨by rw [List.length_drop,hl,Nat.sub_mul],?_⟩
 rcases h.2 with ⟨hv,h0⟩ | ⟨g,off,cap,cur,hv,hg,h1,h2,h3,h4⟩
 ·
  injection hv with hA _ hc
  subst hA hc;refine .inl ⟨?_,by omega⟩;rw [show k=0 by omega];simp [h0]
 ·
  injection hv with hA _ hc
  subst hA hc;have hm:(n - k) * size<=(c - k) * size:=Nat.mul_le_mul_right _ (by omega)
  by_cases hck:c=k
  ·
   rw [if_pos hck];refine .inr ⟨g,off,c - k,cur,rfl,hg,by omega,by omega,?_,?_⟩
   · have:(c - k) * size<=c * size:=Nat.mul_le_mul_right _ (by omega);omega
   ·
    rw [show n - k=0 by omega,Nat.zero_mul,List.take_zero]
    symm
    apply List.drop_eq_nil_of_le;rw [hl];exact Nat.mul_le_mul_right _ (by omega)
  ·
   rw [if_neg hck];have hsz:c * size=(c - k) * size+k * size:=(by rw [<- Nat.add_mul];congr 1;omega);refine .inr ⟨g,off+k * size,c - k,cur,?_,hg,by omega,by omega,by omega,?_⟩
   · simp only [Option.map_some,Addr.add_lit]
   · rw [<- h4,List.drop_take,List.drop_drop,Nat.sub_mul]
theorem ownBlock_from {A:Option Addr} {n c k m m':Nat}:Value.ownBlock (.slice (if c=k then A else A.map (·.add m)) n m')=Value.ownBlock (.slice A n c):=by
 split
 · cases A <;> rfl
 ·
  cases A with
  | none=>rfl
  | some a=>simp [Value.ownBlock,block_of_add]
theorem CR.from_ {c e size n cp k:Nat} {A:Option Addr} {xs:List Value} (h:CR col c w e size (.slice A n cp) n xs) (hk:k<=n):CR col c w e size (.slice (if cp=k then A else A.map (·.add (k * size))) (n - k) (cp - k)) (n - k) (xs.drop (k * size)) :=
 ⟨h.r.from_ hk, fun g hg => by
  rw [ownBlock_from] at hg
  exact h.k g (by cases A <;> simpa [Value.ownBlock] using hg)⟩
end

section
variable {P:Program} (w:World)
theorem run_appO {t e size bytes:Nat} (T:SliceTy P t e size bytes) (ty:TypeId) (v:Value) (n:Nat) (xs:List Value) (hown:RowO w e size v n xs)
  (B:Nat) (A:Option Addr) (m c:Nat) (news:List Value) (hr:Reads w B size A m news) (h1:∀ u ∈ news,u.oneCell'=true)
  (h63:n+m<=1073741824) (hb:bytes<=131072) :
  ∃ A' c' w',(Builtin.append_ #[t,t] ty #[v,.slice A m c]).run P w=.ok (.slice A' (n+m) c') w'/\RowO w' e size (.slice A' (n+m) c') (n+m) (xs ++ news)/\w.grownBy w' v.ownBlock /\
   (∀ g,Value.ownBlock (.slice A' (n+m) c')=some g->v.ownBlock=some g \/ w.heap.size<=g):=by
 rcases hown.2 with ⟨rfl,rfl⟩ | ⟨g,off,cap,cur,rfl,hg,hnc,hcm,hcs,htake⟩
 ·
  have hx:xs=[]:=List.eq_nil_of_length_eq_zero (by simpa using hown.1);subst hx;obtain ⟨A',c',w',h1,h2,h3,h4⟩:=run_app w T ty w.heap.size _ 0 [] (World.ownsRow_nil w _ e size) B A m c news hr h1 h63 hb (Nat.le_refl _);refine ⟨A',c',w',h1,.of_own h2,h3,fun g hg => ?_⟩
  rcases h4 with h4 | h4
  · exact .inl (h4.symm.trans hg)
  · rw [h4] at hg;injection hg with hg;exact .inr (by omega)
 ·
  obtain ⟨i,z,hi,hz,hsize,hby,hzs⟩:=T.hi;have hT:=T.pos;subst hsize;subst hby;have hml:n+m<=maxLen:=(by unfold maxLen;omega);have hbytes:(n+m) * i.bytes<=140737488355328:=Nat.le_trans (Nat.mul_le_mul h63 hb) (by decide)
  have hcells:∀ ad,A=some ad -> ∀ j u,news[j]?=some u->w.cell? (ad.add j)=some u:=by
   rintro ad rfl j u hu
   rcases Nat.eq_zero_or_pos m with h0 | h0
   · subst h0;have hn:news=[]:=List.eq_nil_of_length_eq_zero (by simpa using hr.1);subst hn;simp at hu
   ·
    obtain ⟨b,off,h,_,hc⟩:=hr.2 h0;injection h with h
    subst h;rw [Addr.add_lit];exact hc j u hu
  rcases A with _ | ad
  ·
   have hm:m=0:=by
    rcases Nat.eq_zero_or_pos m with h0 | h0
    · exact h0
    ·
     obtain ⟨b,off,h,_⟩:=hr.2 h0
     cases h
   subst hm;have hn:news=[]:=List.eq_nil_of_length_eq_zero (by simpa using hr.1);subst hn;refine ⟨some ⟨g,off,none⟩,cap,w,?_,by simpa using hown,⟨rfl,rfl,rfl,Nat.le_refl _,fun _ _ _=>rfl⟩,fun _ h=>.inl h⟩;simp [Builtin.append_,run_underlying T.ht,sizeOf,typeInfo,hi,Builtin.lenOf,Builtin.firstCells,hnc,storeCells]
  ·
   by_cases hroom:n+m<=cap
   ·
    have hnl:=hr.1;have hnm:(n+m) * i.size<=cap * i.size:=Nat.mul_le_mul_right _ hroom;have hfit:off+n * i.size+news.length<=cur.size:=(by rw [hnl];rw [Nat.add_mul] at hnm;omega);have hf:=run_firstCells_some (P:=P) w i.size m ad m c news hnl (hcells ad rfl);have hst:=run_storeCells_at (P:=P) g (off+n * i.size) e news 0 cur w hg (by simpa using hfit) h1;simp only [Nat.add_zero] at hst;have hlen:(xs ++ news).length=(n+m) * i.size:=(by rw [List.length_append,hown.1,hnl,Nat.add_mul]);refine ⟨some ⟨g,off,none⟩,cap,w.setRow g (cur.toList.take (off+n * i.size) ++ news ++ cur.toList.drop (off+n * i.size+news.length)).toArray,?_,⟨hlen,.inr ⟨g,off,cap,_,rfl,setRow_heap w g cur _ e _ hg,hroom,hcm,?_,?_⟩⟩,⟨rfl,rfl,rfl,by simp,fun k _ hk=>setRow_other w g k _ (fun e=>hk (by simp [Value.ownBlock,e]))⟩,fun _ h=>.inl h⟩
    · simp [Builtin.append_,run_underlying T.ht,sizeOf,typeInfo,hi,Builtin.lenOf,hroom,hf,Addr.add_lit,hst]
    · simp only [List.size_toArray,List.length_append,List.length_take,List.length_drop,Array.length_toList];omega
    ·
     rw [<- hlen]
     have e1:cur.toList.take (off+n * i.size)=cur.toList.take off ++ xs:=by
      rw [List.take_add,htake]
     simp only [];rw [e1,List.append_assoc,List.append_assoc,List.drop_append_of_le_length (by rw [List.length_take,Array.length_toList];omega),List.drop_of_length_le (by rw [List.length_take];omega),List.nil_append,<- List.append_assoc];exact List.take_left
   ·
    have holds:∀ j u,xs[j]?=some u->w.cell? ((⟨g,off,none⟩:Addr).add j)=some u:=by
     intro j u hu;rw [Addr.add_lit];rw [<- htake,List.getElem?_take] at hu
     split at hu
     · rw [List.getElem?_drop] at hu;exact (cell_of_row w g (off+j) cur e (0,0) hg).trans (by simpa using hu)
     · cases hu
    obtain ⟨v',w',hrun,h2,h3⟩:=run_append_arg_grows (P:=P) w t ty e i z i.size i.bytes T.ht hi hz rfl rfl hzs hT ⟨g,off,none⟩ n cap xs hown.1 holds ad m c news hr.1 (hcells ad rfl) (by omega) hml hbytes;obtain ⟨A',c',rfl,hA,hc2,hA0⟩:=ownsRow_shape h2;refine ⟨A',c',w',hrun,.of_own h2,⟨h3.os,h3.tape,h3.output,h3.size,fun k hk _=>h3.block k hk (by simp)⟩,fun g' hg'=>.inr ?_⟩
    rcases A' with _ | ad'
    · cases hg'
    ·
     injection hg' with hg'
     subst hg';exact (hA _ rfl).2.2.1
theorem Blk.ne_rowO {w:World} {g t:Nat} {cs:Array Value} {e size n:Nat} {v:Value} {xs:List Value} (hb:Blk w g t cs) (h:RowO w e size v n xs) (hne:e ≠ t):some g ≠ v.ownBlock:=by
 intro he
 rcases h.2 with ⟨rfl,_⟩ | ⟨g',off,cap,cur,rfl,hgg,_⟩
 · cases he
 ·
  have he':g=g':=by simpa [Value.ownBlock] using he
  subst he';unfold Blk at hb;rw [hgg] at hb;injection hb with hb
  injection hb with _ ht
  exact hne ht
theorem run_appC {col:Nat->Nat} {k:Nat} {t e size bytes:Nat} (T:SliceTy P t e size bytes) (ty:TypeId) (v:Value) (n:Nat) (xs:List Value) (hown:CR col k w e size v n xs)
  (B:Nat) (A:Option Addr) (m c:Nat) (news:List Value) (hr:Reads w B size A m news) (h1:∀ u ∈ news,u.oneCell'=true) (h63:n+m<=1073741824) (hb:bytes<=131072) :
  ∃ A' c' w',(Builtin.append_ #[t,t] ty #[v,.slice A m c]).run P w=.ok (.slice A' (n+m) c') w'/\CR (paint col w.heap.size k) k w' e size (.slice A' (n+m) c') (n+m) (xs ++ news)/\Cg (· = k) col w (paint col w.heap.size k) w'/\w.grownBy w' v.ownBlock:=by
 obtain ⟨A',c',w',h2,h3,h4,h5⟩:=run_appO w T ty v n xs hown.r B A m c news hr h1 h63 hb;refine ⟨A',c',w',h2,⟨h3,fun g hg => ?_⟩,Cg.paint ⟨h4.os,h4.tape,h4.output,h4.size,fun _ _=>rfl,fun q hq hn=>h4.block q hq fun he=>hn (hown.k q he.symm)⟩ k,h4⟩
 rcases h5 g hg with h | h
 · rw [paint_lt (hown.r.lt h)];exact hown.k g h
 · exact paint_ge h
def AppK (w:World) (col:Nat->Nat) (k e size:Nat) (v:Value) (n m:Nat) (xs news:List Value) (K:Value->World->Prop):Prop :=
 ∀ A' c' w',CR (paint col w.heap.size k) k w' e size (.slice A' (n+m) c') (n+m) (xs ++ news)->Cg (· = k) col w (paint col w.heap.size k) w'->w.grownBy w' v.ownBlock->K (.slice A' (n+m) c') w'
theorem wp_appC {o:Oper} {a:Act} {K:Act->World->Prop} {Q:Exit->Act->World->Prop} (s x:Operand) {col:Nat->Nat} {k:Nat} {t e size bytes:Nat} (T:SliceTy P t e size bytes)
  (ho:o.op=.call { callee:=.builtin .append,args:=#[s,x],argTypes:=#[t,t] })
  (v:Value) (n:Nat) (xs:List Value) (hs:a.eval s=v) (hown:CR col k w e size v n xs)
  (B:Nat) (A:Option Addr) (m c:Nat) (news:List Value) (hx:a.eval x=.slice A m c) (hr:Reads w B size A m news) (h1:∀ u ∈ news,u.oneCell'=true)
  (h63:n+m<=1073741824) (hb:bytes<=131072)
  (h:AppK w col k e size v n m xs news fun v' w'=>K (a.put o.dst v') w'):o.wp P a w K Q:=by
 obtain ⟨A',c',w',hrun,h2,h3,h4⟩:=run_appC (P:=P) w T o.type v n xs hown B A m c news hr h1 h63 hb;unfold Oper.wp execOp;simp only [ho,resolve,invoke,builtin,Sem.run_bind,Sem.run_pure,Result.andThen_ok,List.map_toArray,List.map_cons,List.map_nil,hs,hx,hrun];exact h A' c' w' h2 h3 h4
theorem wpList_appC {ops:Array Oper} {rest:List Oper} {o:Oper} {a:Act} {Q:Exit->Act->World->Prop} (hgd:o.guard=none) (s x:Operand) {col:Nat->Nat} {k:Nat} {t e size bytes:Nat} (T:SliceTy P t e size bytes)
  (ho:o.op=.call { callee:=.builtin .append,args:=#[s,x],argTypes:=#[t,t] })
  (v:Value) (n:Nat) (xs:List Value) (hs:a.eval s=v) (hown:CR col k w e size v n xs)
  (B:Nat) (A:Option Addr) (m c:Nat) (news:List Value) (hx:a.eval x=.slice A m c) (hr:Reads w B size A m news) (h1:∀ u ∈ news,u.oneCell'=true)
  (h63:n+m<=1073741824) (hb:bytes<=131072)
  (h:AppK w col k e size v n m xs news fun v' w'=>wpList P ops Q rest (a.put o.dst v') w'):wpList P ops Q (o :: rest) a w :=
 wpList_plain hgd fun _ hK=>wp_appC w s x T ho v n xs hs hown B A m c news hx hr h1 h63 hb fun A' c' w' h2 h3 h4=>hK _ _ (h A' c' w' h2 h3 h4)
theorem step_appC {ops:Array Oper} {o:Oper} {a:Act} {K:Act->World->Prop} {Q:Exit->Act->World->Prop} {E:Prop} (hgd:o.guard=none) (s x:Operand) {col:Nat->Nat} {k:Nat} {t e size bytes:Nat} (T:SliceTy P t e size bytes)
  (ho:o.op=.call { callee:=.builtin .append,args:=#[s,x],argTypes:=#[t,t] })
  (v:Value) (n:Nat) (xs:List Value) (hs:a.eval s=v) (hown:CR col k w e size v n xs)
  (B:Nat) (A:Option Addr) (m c:Nat) (news:List Value) (hx:a.eval x=.slice A m c) (hr:Reads w B size A m news) (h1:∀ u ∈ news,u.oneCell'=true)
  (h63:n+m<=1073741824) (hb:bytes<=131072)
  (h:AppK w col k e size v n m xs news fun v' w'=>K (a.put o.dst v') w') :
  if Region.wanted o (yielded ops a.tmps)=true then Oper.wp P o a w K Q else E:=by
 have hw:Region.wanted o (yielded ops a.tmps)=true:=(by simp [Region.wanted,hgd]);rw [if_pos hw];exact wp_appC w s x T ho v n xs hs hown B A m c news hx hr h1 h63 hb h
end
end Go.Fb
namespace Go.Fb
set_option maxRecDepth 100000
set_option maxHeartbeats 16000000
set_option linter.unusedVariables false
set_option linter.unnecessarySimpa false
structure Pkt where
 (ch bk inc seq ack:Int) (ld:ByteArray)
structure OutS where
 (ch inc:Int) (ws:List ByteArray) (last ticks:Int)
structure InS where
 (ch inc:Int) (ls:List ByteArray) (out:Int)
def pkC (p:Pkt):Array Value:=#[.int .i64 p.ch,.int .i64 p.bk,.int .i64 p.inc,.int .i64 p.seq,.int .i64 p.ack,.string p.ld]
def pksC (l:List Pkt):List Value:=l.flatMap fun p=>(pkC p).toList
theorem pksC_app (l m:List Pkt):pksC (l ++ m)=pksC l ++ pksC m:=List.flatMap_append
theorem pksC_one (l:List Pkt):∀ u ∈ pksC l,u.oneCell'=true:=by
 intro u hu;obtain ⟨p,_,hp⟩:=List.mem_flatMap.1 hu;simp [pkC] at hp
 rcases hp with rfl | rfl | rfl | rfl | rfl | rfl <;> rfl
def emptyB:ByteArray:=⟨#[]⟩
def isP (ch inc:Int) (p:Pkt) (back:Int):Bool:=p.ch == ch && (p.inc == inc && p.bk == back)
def sendO (s:ByteArray) (S:OutS):OutS × List Pkt × Int :=
 if s.size=0 then (S,[],1) else if S.ws.length=6 then (S,[],7)
 else ({ S with ws:=S.ws ++ [s],last:=S.last+1 },[⟨S.ch,0,S.inc,S.last+1,0,s⟩],0)
def ackO (p:Pkt) (S:OutS):OutS :=
 if isP S.ch S.inc p 1=false \/ S.last < p.ack then S else { S with ws:=S.ws.drop (p.ack - (S.last - (S.ws.length:Int))).toNat }
def ackP (S:InS):Pkt:=⟨S.ch,1,S.inc,0,S.out,emptyB⟩
def takeI (p:Pkt) (S:InS):InS × List Pkt :=
 if isP S.ch S.inc p 0=false \/ p.ld.size=0 then (S,[])
 else if p.seq=S.out+(S.ls.length:Int)+1 then (if 6<=S.ls.length then (S,[]) else ({ S with ls:=S.ls ++ [p.ld] },[ackP S]))
 else (S,[ackP S])
def popI (S:InS):InS:={ S with ls:=S.ls.drop 1,out:=S.out+1 }
def Cn (x:Int):Prop:=-1099511627776<=x/\x<=1099511627776
end Go.Fb
namespace Go.Proofs.YtgblfflikgnfpaaGreat
open Go.RowKit Go.Fb
set_option maxRecDepth 100000
set_option maxHeartbeats 16000000
set_option linter.unusedVariables false
set_option linter.unnecessarySimpa false
abbrev It (b:Bool) (k re im ep:Int) (p:Bool):Array Value:=#[.bool b,.int .i64 k,.int .i64 re,.int .i64 im,.int .i64 ep,.bool p]
structure Al (w:World) (g gb:Nat) (bs:List Bool) (b:Bool) (ep:Int) (p:Bool) (many last:Int):Prop where
 st:Blk w g 218 #[.bool b,.int .i64 0,.int .i64 0,.int .i64 0,.int .i64 ep,.bool p,.slice (some ⟨gb,0,none⟩) bs.length bs.length,.int .i64 many,.int .i64 last]
 bl:Blk w gb 4 (bs.map Value.bool).toArray
theorem Al.ne {w:World} {g gb:Nat} {bs:List Bool} {b:Bool} {ep:Int} {p:Bool} {many last:Int} (h:Al w g gb bs b ep p many last):g ≠ gb:=h.st.ne_ h.bl (by decide)
theorem Al.fr {w w':World} {g gb:Nat} {bs:List Bool} {b:Bool} {ep:Int} {p:Bool} {many last:Int} {B:Nat} {L:List Nat} (h:Al w g gb bs b ep p many last) (hf:Fr B L w w') (h1:g < B) (h2:gb < B) (h3:g ∉ L) (h4:gb ∉ L):Al w' g gb bs b ep p many last :=
 ⟨h.st.fr hf h1 h3,h.bl.fr hf h2 h4⟩
theorem Al.fr0 {w w':World} {g gb:Nat} {bs:List Bool} {b:Bool} {ep:Int} {p:Bool} {many last:Int} (h:Al w g gb bs b ep p many last) (hf:Fr w.heap.size [] w w'):Al w' g gb bs b ep p many last :=
 h.fr hf h.st.lt h.bl.lt (by simp) (by simp)
theorem Al.cellb {w:World} {g gb:Nat} {bs:List Bool} {b:Bool} {ep:Int} {p:Bool} {many last:Int} (h:Al w g gb bs b ep p many last) {c:Nat} {x:Bool} (hc:bs[c]?=some x):w.cell? ⟨gb,c,none⟩=some (.bool x):=by
 rw [h.bl.cell];simp [hc]

def set6 (w:World) (g:Nat) (u0 u1 u2 u3 u4 u5:Value):World :=
 (((((w.setCell ⟨g,0,none⟩ u0).setCell ⟨g,1,none⟩ u1).setCell ⟨g,2,none⟩ u2).setCell ⟨g,3,none⟩ u3).setCell ⟨g,4,none⟩ u4).setCell ⟨g,5,none⟩ u5
theorem blk_set6 {w:World} {g t:Nat} {a0 a1 a2 a3 a4 a5:Value} {rest:List Value} (h:Blk w g t (a0 :: a1 :: a2 :: a3 :: a4 :: a5 :: rest).toArray) (u0 u1 u2 u3 u4 u5:Value) :
  Blk (set6 w g u0 u1 u2 u3 u4 u5) g t (u0 :: u1 :: u2 :: u3 :: u4 :: u5 :: rest).toArray:=by
 have h0:=h.set_ 0 u0;simp only [List.setIfInBounds_toArray,List.set_cons_zero] at h0;have h1:=h0.set_ 1 u1;simp only [List.setIfInBounds_toArray,List.set_cons_succ,List.set_cons_zero] at h1;have h2:=h1.set_ 2 u2;simp only [List.setIfInBounds_toArray,List.set_cons_succ,List.set_cons_zero] at h2;have h3:=h2.set_ 3 u3;simp only [List.setIfInBounds_toArray,List.set_cons_succ,List.set_cons_zero] at h3;have h4:=h3.set_ 4 u4;simp only [List.setIfInBounds_toArray,List.set_cons_succ,List.set_cons_zero] at h4;have h5:=h4.set_ 5 u5;simp only [List.setIfInBounds_toArray,List.set_cons_succ,List.set_cons_zero] at h5;exact h5
theorem fr_set6 {B g:Nat} {L:List Nat} {a w:World} (h:Fr B L a w) (hg:B<=g \/ g ∈ L) (u0 u1 u2 u3 u4 u5:Value):Fr B L a (set6 w g u0 u1 u2 u3 u4 u5) :=
 (((((h.setCell (p:=⟨g,0,none⟩) hg _).setCell (p:=⟨g,1,none⟩) hg _).setCell (p:=⟨g,2,none⟩) hg _).setCell (p:=⟨g,3,none⟩) hg _).setCell (p:=⟨g,4,none⟩) hg _).setCell (p:=⟨g,5,none⟩) hg _
theorem blk_far6 {w:World} {g g' t:Nat} {cs:Array Value} (h:Blk w g t cs) (hne:g ≠ g') (u0 u1 u2 u3 u4 u5:Value):Blk (set6 w g' u0 u1 u2 u3 u4 u5) g t cs :=
 (((((h.far (p:=⟨g',0,none⟩) hne _).far (p:=⟨g',1,none⟩) hne _).far (p:=⟨g',2,none⟩) hne _).far (p:=⟨g',3,none⟩) hne _).far (p:=⟨g',4,none⟩) hne _).far (p:=⟨g',5,none⟩) hne _
theorem results_row_tmp {P:Program} {fn:Func} {p q:Tmp} {ty:TypeId} (h:fn.results = #[.cell p ty,.tmp q]) (tmps:Array Value) (w:World) (g:Nat) (t:TypeId) (cs:Array Value) (fr:Nat × Nat) (d:TypeDesc)
  (hp:tmps.getD p undef=.pointer (some ⟨g,0,none⟩)) (hg:w.heap[g]?=some (.cells cs t fr))
  (hu:P.underlying ty=some d) (hd:(match d with | .struct _ | .array _ _=>true | _=>false)=true) (hi:(P.info? ty).map (·.size)=some cs.size) :
  (results fn tmps).run P w=.ok (.tuple #[.agg cs,tmps.getD q undef]) w:=by
 have hp':tmps[p]?.getD undef=.pointer (some ⟨g,0,none⟩):=(by simpa using hp);simp [results,h,hp',asAddr,run_loadVar_row w g t ty cs fr d hg hu hd hi]

theorem boolinfo:(Tryz.prog.info? 4).map (fun i=>(i.zero,i.size,i.bytes))=some (some (.bool false),1,1):=by kernel_rfl
theorem anew_yes (n:Nat) (w:World) (h:n<=64):Calls Tryz.prog 60 #[.int .i64 n] w fun e w' =>
  e=.returned (.tuple #[.pointer (some ⟨w.heap.size+1,0,none⟩),.int .i64 0])/\Al w' (w.heap.size+1) w.heap.size (List.replicate n false) false 0 false 0 ((n:Int) - 1)/\Fr w.heap.size [] w w':=by
 obtain ⟨i,hi,hz,hsz,hby⟩:=info_parts boolinfo
 have hmk:∀ W:World,(Instr.makeSlice 216 (.int .i64 (n:Int)) (.int .i64 (n:Int))).run Tryz.prog W=.ok (.slice (some ⟨W.heap.size,0,none⟩) n n) (W.alloc (.cells (madeCells (Value.bool false).cells (n * i.size)) 4)):=fun W=>by
  have hr:=run_make (P:=Tryz.prog) W 216 4 i (.bool false) Tryz.underlying216 hi hz .i64 .i64 n n (by omega) (by omega) (by rw [hby];omega) (by omega);simp only [Int.toNat_natCast] at hr;exact hr
 have hmc:madeCells (Value.bool false).cells (n * i.size)=((List.replicate n false).map Value.bool).toArray:=by
  rw [hsz,Nat.mul_one];apply Array.ext
  · simp [size_madeCells]
  · intro j h1 h2;simp [madeCells,Value.cells,Nat.mod_one]
 rw [hmc] at hmk;clear hmc;go_enter Tryz.func60,Tryz.ntmps60;go_wp2_with fail;go_ret2;refine ⟨rfl,⟨?_,?_⟩,((Fr.refl _ _ _).alloc (Nat.le_refl _) _).alloc (by simp) _⟩
 · have h:=Blk.new (w.alloc (.cells ((List.replicate n false).map Value.bool).toArray 4)) 218 #[.bool false,.int .i64 0,.int .i64 0,.int .i64 0,.int .i64 0,.bool false,.slice (some ⟨w.heap.size,0,none⟩) n n,.int .i64 0,.int .i64 ((n:Int) - 1)];rw [show (w.alloc (.cells ((List.replicate n false).map Value.bool).toArray 4)).heap.size=w.heap.size+1 by simp] at h;simpa using h
 · have h:=(Blk.new w 4 ((List.replicate n false).map Value.bool).toArray).alloc (.cells #[.bool false,.int .i64 0,.int .i64 0,.int .i64 0,.int .i64 0,.bool false,.slice (some ⟨w.heap.size,0,none⟩) n n,.int .i64 0,.int .i64 ((n:Int) - 1)] 218);simpa using h

section
variable {w:World} {g gb:Nat} {bs:List Bool} {b:Bool} {ep:Int} {p:Bool} {many last:Int}
def inB (bs:List Bool) (c:Int):Bool:=decide (0<=c/\c < (bs.length:Int))
theorem athere_any (h:Al w g gb bs b ep p many last) (c:Int):Calls Tryz.prog 161 #[.pointer (some ⟨g,0,none⟩),.int .i64 c] w fun e w'=>e=.returned (.bool (inB bs c))/\w=w':=by
 have hc:=h.st.cell 6
 by_cases h0:0<=c
 ·
  by_cases h1:c < (bs.length:Int)
  ·
   have hv:inB bs c=true:=by simp [inB,h0,h1]
   rw [hv];clear hv h;generalize bs.length=n at *;go_enter Tryz.func161,Tryz.ntmps161;go_wp2_with fail;go_ret;exact ⟨by first | rfl | simp | (simp;omega),rfl⟩
  ·
   have hv:inB bs c=false:=by simp [inB];omega
   rw [hv];clear hv h;generalize bs.length=n at *;go_enter Tryz.func161,Tryz.ntmps161;go_wp2_with fail;go_ret;exact ⟨by first | rfl | simp | (simp;omega),rfl⟩
 ·
  have hv:inB bs c=false:=by simp [inB];omega
  rw [hv];clear hv h;generalize bs.length=n at *;go_enter Tryz.func161,Tryz.ntmps161;go_wp2_with fail;go_ret;exact ⟨by first | rfl | simp | (simp;omega),rfl⟩

theorem inB_of {c:Nat} {x:Bool} (hx:bs[c]?=some x):inB bs (c:Int)=true:=by
 have:c < bs.length:=by
  rcases Nat.lt_or_ge c bs.length with h | h
  · exact h
  · rw [List.getElem?_eq_none h] at hx;cases hx
 simp [inB];omega
abbrev It0:Array Value:=It false 0 0 0 0 false
def metB (many:Int) (n:Nat):Bool:=!(many == 0 || decide (many < (n:Int)))
theorem met_no (h:Al w g gb bs b ep p many last) (hm:metB many bs.length=false):Calls Tryz.prog 104 #[.pointer (some ⟨g,0,none⟩)] w fun e w'=>e=.returned (.tuple #[.agg It0,.bool false])/\Fr w.heap.size [] w w':=by
 have hc6:=h.st.cell 6;have hc7:=h.st.cell 7;have hlt:=h.st.lt;clear h;generalize bs.length=n at *
 by_cases hz:many=0
 ·
  have hz':(many == 0)=true:=by simpa using hz
  clear hz hm;go_enter Tryz.func104,Tryz.ntmps104;go_wp2_with fail;go_quiet (fail);go_wp2_with fail;exact bodyPost_ret (results_row_tmp rfl _ _ w.heap.size 46 It0 (0,0) _ rfl (blk_set6 (((Blk.new w 46 It0).drewN nq)) _ _ _ _ _ _) Tryz.underlying46 rfl (by kernel_rfl)) rfl ⟨rfl,fr_set6 (((Fr.refl _ _ w).alloc (Nat.le_refl _) _).drewN nq) (.inl (Nat.le_refl _)) _ _ _ _ _ _⟩
 ·
  have hz':(many == 0)=false:=by simpa using hz
  have hml:many < (n:Int):=(by simpa [metB,hz] using hm);clear hz hm;go_enter Tryz.func104,Tryz.ntmps104;go_wp2_with fail;go_quiet (fail);go_wp2_with fail;exact bodyPost_ret (results_row_tmp rfl _ _ w.heap.size 46 It0 (0,0) _ rfl (blk_set6 (((Blk.new w 46 It0).drewN nq)) _ _ _ _ _ _) Tryz.underlying46 rfl (by kernel_rfl)) rfl ⟨rfl,fr_set6 (((Fr.refl _ _ w).alloc (Nat.le_refl _) _).drewN nq) (.inl (Nat.le_refl _)) _ _ _ _ _ _⟩
theorem met_yes (h:Al w g gb bs b ep p many last) (hm:metB many bs.length=true):Calls Tryz.prog 104 #[.pointer (some ⟨g,0,none⟩)] w fun e w'=>e=.returned (.tuple #[.agg (It b 0 0 0 ep p),.bool true])/\Fr w.heap.size [] w w':=by
 have hc0:=h.st.cell 0;have hc1:=h.st.cell 1;have hc2:=h.st.cell 2;have hc3:=h.st.cell 3;have hc4:=h.st.cell 4;have hc5:=h.st.cell 5;have hc6:=h.st.cell 6;have hc7:=h.st.cell 7;have hlt:=h.st.lt;clear h;generalize bs.length=n at *
 obtain ⟨hz,hml⟩:(many == 0)=false/\decide (many < (n:Int))=false:=by
  unfold metB at hm;rw [Bool.not_eq_true',Bool.or_eq_false_iff] at hm;exact hm
 clear hm;go_enter Tryz.func104,Tryz.ntmps104;go_wp2_with fail;go_quiet (fail);go_wp2_with fail;exact bodyPost_ret (results_row_tmp rfl _ _ w.heap.size 46 (It b 0 0 0 ep p) (0,0) _ rfl (blk_set6 (((Blk.new w 46 It0).drewN nq)) _ _ _ _ _ _) Tryz.underlying46 rfl (by kernel_rfl)) rfl ⟨rfl,fr_set6 (((Fr.refl _ _ w).alloc (Nat.le_refl _) _).drewN nq) (.inl (Nat.le_refl _)) _ _ _ _ _ _⟩

end
end Go.Proofs.YtgblfflikgnfpaaGreat
namespace Go.Proofs.YtgblfflikgnfpaaGreat
open Go.RowKit Go.Fb
set_option maxRecDepth 100000
set_option maxHeartbeats 16000000
set_option linter.unusedVariables false
set_option linter.unnecessarySimpa false
def OutM (col:Nat->Nat) (c:Nat) (w:World) (g:Nat) (S:OutS):Prop :=
 ∃ A cp,CB col c w g 179 #[.int .i64 S.ch,.int .i64 S.inc,.slice A S.ws.length cp,.int .i64 S.last,.int .i64 S.ticks]/\CR col c w 9 1 (.slice A S.ws.length cp) S.ws.length (S.ws.map Value.string)
def InM (col:Nat->Nat) (c:Nat) (w:World) (g:Nat) (S:InS):Prop :=
 ∃ A cp,CB col c w g 181 #[.int .i64 S.ch,.int .i64 S.inc,.slice A S.ls.length cp,.int .i64 S.out]/\CR col c w 9 1 (.slice A S.ls.length cp) S.ls.length (S.ls.map Value.string)
theorem OutM.cg {C:Nat->Prop} {col col':Nat->Nat} {w w':World} {c g:Nat} {S:OutS} (h:OutM col c w g S) (k:Cg C col w col' w') (hc:¬ C c):OutM col' c w' g S:=by
 obtain ⟨A,cp,h1,h2⟩:=h;exact ⟨A,cp,h1.cg k hc,h2.cg k hc⟩
theorem InM.cg {C:Nat->Prop} {col col':Nat->Nat} {w w':World} {c g:Nat} {S:InS} (h:InM col c w g S) (k:Cg C col w col' w') (hc:¬ C c):InM col' c w' g S:=by
 obtain ⟨A,cp,h1,h2⟩:=h;exact ⟨A,cp,h1.cg k hc,h2.cg k hc⟩
theorem cg0 {col:Nat->Nat} {w w':World} (h:Fr w.heap.size [] w w'):Cg (fun _=>False) col w col w':=Cg.of_fr h (by simp)
theorem OutM.fr0 {col:Nat->Nat} {w w':World} {c g:Nat} {S:OutS} (h:OutM col c w g S) (k:Fr w.heap.size [] w w'):OutM col c w' g S:=h.cg (cg0 k) (fun h=>h)
theorem InM.fr0 {col:Nat->Nat} {w w':World} {c g:Nat} {S:InS} (h:InM col c w g S) (k:Fr w.heap.size [] w w'):InM col c w' g S:=h.cg (cg0 k) (fun h=>h)
theorem newOut_any (ch inc:Int) (w:World):Calls Tryz.prog 41 #[.int .i64 ch,.int .i64 inc] w fun e w' =>
  e=.returned (.pointer (some ⟨w.heap.size,0,none⟩))/\Fr w.heap.size [] w w' /\ ∀ col c,OutM (paint col w.heap.size c) c w' w.heap.size ⟨ch,inc,[],0,0⟩:=by
 go_enter Tryz.func41,Tryz.ntmps41;go_wp2_with fail;go_ret;refine ⟨rfl,(Fr.refl _ _ _).alloc (Nat.le_refl _) _,fun col c=>⟨none,0,⟨Blk.new w _ _,paint_ge (Nat.le_refl _)⟩,CR.nil _ _ _ _ _⟩⟩
theorem newIn_any (ch inc:Int) (w:World):Calls Tryz.prog 43 #[.int .i64 ch,.int .i64 inc] w fun e w' =>
  e=.returned (.pointer (some ⟨w.heap.size,0,none⟩))/\Fr w.heap.size [] w w' /\ ∀ col c,InM (paint col w.heap.size c) c w' w.heap.size ⟨ch,inc,[],0⟩:=by
 go_enter Tryz.func43,Tryz.ntmps43;go_wp2_with fail;go_ret;refine ⟨rfl,(Fr.refl _ _ _).alloc (Nat.le_refl _) _,fun col c=>⟨none,0,⟨Blk.new w _ _,paint_ge (Nat.le_refl _)⟩,CR.nil _ _ _ _ _⟩⟩
section
variable {col:Nat->Nat} {c g:Nat} {w:World}
theorem endIs_any (ch inc:Int) (p:Pkt) (back:Int) (w:World):Calls Tryz.prog 78 #[.agg #[.int .i64 ch,.int .i64 inc],.agg (pkC p),.int .i64 back] w fun e w' =>
  e=.returned (.bool (isP ch inc p back))/\Fr w.heap.size [] w w':=by
 obtain ⟨pc,pb,pi,ps,pa,pl⟩:=p;simp only [pkC,isP]
 by_cases h1:pc=ch
 ·
  by_cases h2:pi=inc
  ·
   by_cases h3:pb=back
   · go_enter Tryz.func78,Tryz.ntmps78;go_wp2_with fail;go_ret;exact ⟨by simp [h1,h2,h3],(((Fr.refl _ _ _).alloc (Nat.le_refl _) _).alloc (by simp) _)⟩
   · go_enter Tryz.func78,Tryz.ntmps78;go_wp2_with fail;go_ret;exact ⟨by simp [h1,h2],(((Fr.refl _ _ _).alloc (Nat.le_refl _) _).alloc (by simp) _)⟩
  · go_enter Tryz.func78,Tryz.ntmps78;go_wp2_with fail;go_ret;exact ⟨by simp [h2],(((Fr.refl _ _ _).alloc (Nat.le_refl _) _).alloc (by simp) _)⟩
 · go_enter Tryz.func78,Tryz.ntmps78;go_wp2_with fail;go_ret;exact ⟨by simp [h1],(((Fr.refl _ _ _).alloc (Nat.le_refl _) _).alloc (by simp) _)⟩
theorem free_any {S:OutS} (h:OutM col c w g S):Calls Tryz.prog 45 #[.pointer (some ⟨g,0,none⟩)] w fun e w'=>e=.returned (.int .i64 (6 - (S.ws.length:Int)))/\w'=w:=by
 obtain ⟨A,cp,h1,h2⟩:=h;obtain ⟨_,_,e,_,hle,hm,_⟩:=h2.r.shape;injection e with e1 _ e2
 subst e1 e2;have hml:S.ws.length<=maxLen:=Nat.le_trans hle hm;unfold maxLen at hml;have hc:=h1.b.cell 2;generalize S.ws.length=n at *;simp at hc;have hw:IntKind.i64.wrap (6 - (n:Int))=6 - (n:Int):=(by rw [IntKind.wrap_i64];omega);clear h1 h2 hle hm;go_enter Tryz.func45,Tryz.ntmps45;go_wp2_with fail;go_ret;exact ⟨rfl,rfl⟩
theorem len_any {S:InS} (h:InM col c w g S):Calls Tryz.prog 79 #[.pointer (some ⟨g,0,none⟩)] w fun e w'=>e=.returned (.int .i64 (S.ls.length:Int))/\w'=w:=by
 obtain ⟨A,cp,h1,h2⟩:=h;have hc:=h1.b.cell 2;generalize S.ls.length=n at *;simp at hc;clear h1 h2;go_enter Tryz.func79,Tryz.ntmps79;go_wp2_with fail;go_ret;exact ⟨rfl,rfl⟩
theorem ack_any {S:InS} (h:InM col c w g S):Calls Tryz.prog 111 #[.pointer (some ⟨g,0,none⟩)] w fun e w' =>
  e=.returned (.slice (some ⟨w.heap.size,0,none⟩) 1 1)/\Reads w' (w.heap.size+1) 6 (some ⟨w.heap.size,0,none⟩) 1 (pksC [ackP S])/\Fr w.heap.size [] w w':=by
 obtain ⟨A,cp,h1,h2⟩:=h;have hc0:=h1.b.cell 0;have hc1:=h1.b.cell 1;have hc3:=h1.b.cell 3;simp at hc0 hc1 hc3;clear h1 h2;go_enter Tryz.func111,Tryz.ntmps111;go_wp2_with fail;go_region;go_wp2_with fail;go_ret;exact ⟨rfl,Reads.of_blk (Blk.new _ _ _) rfl,(Fr.refl _ _ _).drew.alloc (Nat.le_refl _) _⟩
end
theorem strTy:SliceTy Tryz.prog 177 9 1 16:=SliceTy.mk' (z:=.string emptyB) Tryz.underlying177 (by kernel_rfl) rfl (by omega)
theorem emptyS {s:ByteArray}:s.toList.isEmpty=decide (s.size=0):=by
 rw [ByteArray.toList_eq];have:s.data.toList.length=s.size:=(by rw [Array.length_toList];rfl)
 cases h:s.data.toList with
 | nil=>rw [h] at this;simp at this;simp [<- this]
 | cons a l =>
  rw [h,List.length_cons] at this;have h0:¬ s.size=0:=(by omega);simp [h0]
section
variable {col:Nat->Nat} {c g:Nat} {w:World}
def wpk (S:OutS) (i:Nat):Pkt:=⟨S.ch,0,S.inc,S.last - (S.ws.length:Int)+1+(i:Int),0,S.ws.getD i emptyB⟩
theorem packet_any {S:OutS} (h:OutM col c w g S) (i:Nat) (hi:i < S.ws.length) (hn:S.ws.length<=6) (h0:0<=S.last) (h1:S.last<=1099511627779):Calls Tryz.prog 77 #[.pointer (some ⟨g,0,none⟩),.int .i64 (i:Int)] w fun e w' =>
  e=.returned (.agg (pkC (wpk S i)))/\Fr w.heap.size [] w w':=by
 obtain ⟨A,cp,hb,hr⟩:=h;have hg:=hb.b.lt;have hc0:=hb.b.cell 0;have hc1:=hb.b.cell 1;have hc2:=hb.b.cell 2;have hc3:=hb.b.cell 3;obtain ⟨b,off,rfl,hlt,hcell⟩:=(hr.r.reads).2 (by omega);have hx:=hcell i (.string (S.ws.getD i emptyB)) (by rw [List.getElem?_map,List.getElem?_eq_getElem hi];simp [List.getElem?_eq_getElem hi]);have hii:(i:Int) < (S.ws.length:Int):=(by omega);clear hcell hr;unfold wpk pkC;generalize S.ws.getD i emptyB=ld at *;generalize S.ws.length=n at *;obtain ⟨ch,inc,ws,last,ticks⟩:=S;simp at hc0 hc1 hc2 hc3;simp only at h0 h1 ⊢;clear hb hi;go_enter Tryz.func77,Tryz.ntmps77;go_wp2_with fail;go_region;go_wp2_with fail;exact bodyPost_ret (results_cell_row rfl _ _ w.heap.size 89 _ (0,0) _ rfl (Blk.new w 89 _).drew Tryz.underlying89 rfl (by kernel_rfl)) rfl ⟨rfl,((Fr.refl _ _ w).alloc (Nat.le_refl _) _).drew⟩
def SendOut (col:Nat->Nat) (c g:Nat) (S:OutS) (s:ByteArray) (w:World) (e:Ending) (w':World):Prop :=
 ∃ A cp col',e=.returned (.tuple #[.slice A (sendO s S).2.1.length cp,.int .i64 (sendO s S).2.2])/\CRd col' c w' 6 A (sendO s S).2.1.length (pksC (sendO s S).2.1)/\OutM col' c w' g (sendO s S).1/\Cg (· = c) col w col' w'
theorem send_any {S:OutS} (h:OutM col c w g S) (s:ByteArray) (h6:S.ws.length<=6) (h0:0<=S.last) (h1:S.last<=1099511627776):Calls Tryz.prog 47 #[.pointer (some ⟨g,0,none⟩),.string s] w (SendOut col c g S s w):=by
 by_cases hs:s.size=0
 ·
  have HO:SendOut col c g S s w (.returned (.tuple #[.slice none 0 0,.int .i64 1])) w:=by
   have e:sendO s S=(S,[],1):=(by unfold sendO;rw [if_pos hs]);refine ⟨none,0,col,by rw [e];rfl,by rw [e];exact CRd.none_ _ _ _,by rw [e];exact h,Cg.refl _ _ _⟩
  have HO:=zh HO;have hse:s.toList.isEmpty=true:=(by rw [emptyS];simp [hs]);clear h h0 h1 hs;go_enter Tryz.func47,Tryz.ntmps47;go_wp2_with fail;go_ret2;exact HO.out
 have hse:s.toList.isEmpty=false:=(by rw [emptyS];simp [hs])
 by_cases hf:S.ws.length=6
 ·
  have HO:SendOut col c g S s w (.returned (.tuple #[.slice none 0 0,.int .i64 7])) w:=by
   have e:sendO s S=(S,[],7):=(by unfold sendO;rw [if_neg hs,if_pos hf]);refine ⟨none,0,col,by rw [e];rfl,by rw [e];exact CRd.none_ _ _ _,by rw [e];exact h,Cg.refl _ _ _⟩
  have HO:=zh HO;have HF:=free_any h;rw [hf] at HF;have HF:=zh (show Calls Tryz.prog 45 #[.pointer (some ⟨g,0,none⟩)] w fun e w'=>e=.returned (.int .i64 0)/\w'=w from HF);clear h h0 h1 hf hs;go_enter Tryz.func47,Tryz.ntmps47;go_wp2_with fail;refine HF.out.mono ?_;rintro e w' ⟨rfl,rfl⟩;go_wp2_with fail;go_ret2;exact HO.out
 have HF:=zh (free_any h);have hfi:(6 - (S.ws.length:Int) == 0)=false:=(by rw [beq_eq_false_iff_ne];omega);have he:sendO s S=({ S with ws:=S.ws ++ [s],last:=S.last+1 },[⟨S.ch,0,S.inc,S.last+1,0,s⟩],0):=(by unfold sendO;rw [if_neg hs,if_neg hf]);have HE:=zh he;obtain ⟨A,cp,hb,hr⟩:=h;have hg:=hb.b.lt;have hc2:=hb.b.cell 2;have hc3:=hb.b.cell 3;have hf2:=hb.b.frozen 2;have hf3:=hb.b.frozen 3;simp at hc2 hc3;have hne:=hb.b.ne_rowO hr.r (by decide);have HB:=zh hb;have HN:=zh hne;have HR:=zh ((hr.far (p:=⟨g,3,none⟩) hne (.int .i64 (S.last+1))).alloc (.cells #[.string s] 9));have BG:=zh ((hb.b.set_ 3 (.int .i64 (S.last+1))).alloc (.cells #[.string s] 9));have B3:=zh (Blk.new (w.setCell ⟨g,3,none⟩ (.int .i64 (S.last+1))) 9 #[.string s]);have C3:=zh ((Cg.of_fr (((Fr.refl w.heap.size [g] w).setCell (p:=⟨g,3,none⟩) (.inr (by simp)) (.int .i64 (S.last+1))).alloc (by simp) (.cells #[.string s] 9)) (by simp [hb.k]):Cg (· = c) col w col _));have h6':S.ws.length < 6:=(by omega);clear hb hr hne he hs hf;go_enter Tryz.func47,Tryz.ntmps47;go_wp2_with fail;refine HF.out.mono ?_;rintro e w' ⟨rfl,rfl⟩;go_wp2_with (at_builtin;refine wpList_appC _ rfl (.tmp 28) (.tmp 30) strTy rfl _ _ _ rfl HR.out (w'.heap.size+1) (some ⟨w'.heap.size,0,none⟩) 1 1 [.string s] rfl ?_ (by simp [Value.oneCell']) (by omega) (by omega) ?_)
 · have:=Reads.of_blk (m:=1) (size:=1) B3.out rfl;simpa using this
 intro A' c' w3 hrow hcg hgr;have hb3:=BG.out.grown hgr HN.out;have hf32:=hb3.frozen 2;have hc32:=hb3.cell 2;simp at hc32;have hg3:=hb3.lt;have hne3:=hb3.ne_rowO hrow.r (by decide);have C3':=C3.out.trans hcg;have C4:=C3'.set (p:=⟨g,2,none⟩) ((C3'.same g hg).trans HB.out.k) (.slice A' (S.ws.length+1) c');have hb4:=hb3.set_ 2 (.slice A' (S.ws.length+1) c');have hr4:=hrow.far (p:=⟨g,2,none⟩) hne3 (.slice A' (S.ws.length+1) c');generalize paint col _ c=col4 at *
 have HM:OutM col4 c (w3.setCell ⟨g,2,none⟩ (.slice A' (S.ws.length+1) c')) g ⟨S.ch,S.inc,S.ws ++ [s],S.last+1,S.ticks⟩ :=
  ⟨A',c',⟨by simpa using hb4,(C3'.same g hg).trans HB.out.k⟩,by simpa using hr4⟩
 have C4:=zh C4;have HM:=zh HM;have HP:=packet_any HM.out S.ws.length (by simp) (by simp;omega) (by simp;omega) (by simp;omega)
 have hpk:wpk ⟨S.ch,S.inc,S.ws ++ [s],S.last+1,S.ticks⟩ S.ws.length=⟨S.ch,0,S.inc,S.last+1,0,s⟩:=by
  unfold wpk;simp;omega
 rw [hpk] at HP;simp only [pkC] at HP;have HP:=zh HP;clear hrow hcg hgr hb3 hne3 C3' hb4 hr4 hpk HR BG B3 C3 HN HB HF;go_wp2_with fail;refine HP.out.mono ?_;rintro e w5 ⟨rfl,f5⟩;have F5:=zh f5;clear f5 HP;generalize w3.setCell _ _=w4 at *;go_wp2_with fail;go_ret2;have hd:=Blk.new w5 89 (pkC ⟨S.ch,0,S.inc,S.last+1,0,s⟩);refine ⟨some ⟨w5.heap.size,0,none⟩,1,paint col4 w5.heap.size c,by rw [HE.out];rfl,?_,?_,?_⟩
 ·
  rw [HE.out];refine ⟨(Reads.of_blk hd rfl).more (by simp),?_⟩;rintro a ha _;injection ha with ha
  rw [<- ha];exact paint_ge (Nat.le_refl _)
 · rw [HE.out];exact HM.out.cg (((cg0 F5.out).trans ((Cg.refl _ _ _).new _)).repaint _ _ F5.out.size) (fun h=>h)
 · have:=(C4.out.trans ((cg0 F5.out).mono (fun _ h=>h.elim))).new (.cells (pkC ⟨S.ch,0,S.inc,S.last+1,0,s⟩) 89);exact this.repaint _ _ (Nat.le_trans C4.out.size F5.out.size)
end
end Go.Proofs.YtgblfflikgnfpaaGreat
namespace Go.Proofs.YtgblfflikgnfpaaGreat
open Go.RowKit Go.Fb
set_option maxRecDepth 100000
set_option maxHeartbeats 16000000
set_option linter.unusedVariables false
set_option linter.unnecessarySimpa false
theorem ofits_any (n:Int) (w:World):Calls Tryz.prog 113 #[.int .i64 n] w fun e w'=>e=.returned (.bool (decide (-2147483648<=n/\n<=2147483647)))/\w=w':=by
 by_cases h:-2147483648<=n
 ·
  by_cases h':n<=2147483647
  · go_enter Tryz.func113,Tryz.ntmps113;go_wp2;go_ret;exact ⟨by simp [h,h'],rfl⟩
  · go_enter Tryz.func113,Tryz.ntmps113;go_wp2;go_ret;exact ⟨by simp [h'],rfl⟩
 · go_enter Tryz.func113,Tryz.ntmps113;go_wp2;go_ret;exact ⟨by simp;omega,rfl⟩

def be (n:Int):List Int:=[n % 4294967296 / 16777216,n % 4294967296 / 65536 % 256,n % 4294967296 / 256 % 256,n % 256]
theorem be_length (n:Int):(be n).length=4:=rfl
theorem bes_length (l:List Int):(l.flatMap be).length=4 * l.length:=by
 induction l with
 | nil=>rfl
 | cons a l ih=>rw [List.flatMap_cons,List.length_append,ih,be_length,List.length_cons];omega
def ofitsB (n:Int):Bool:=decide (-2147483648<=n/\n<=2147483647)

def Wr (base:Nat) (w:World) (g:Nat) (bs:List Int):Prop :=
 ∃ sv,Blk w g 184 #[sv]/\w.ownsRow base 5 1 sv bs.length (bs.map (Value.int .u8))

theorem bytesTy:SliceTy Tryz.prog 57 5 1 1:=SliceTy.mk' (z:=.int .u8 0) Tryz.underlying57 (by kernel_rfl) rfl (by omega)
theorem num_any (base g:Nat) (A:Option Addr) (n c B:Nat) (xs bs:List Int) (w:World) (hn:n<=1000000) (hbs:bs.length<=10000000) (hw:Wr base w g bs)
  (hbase:base<=w.heap.size) (hr:Reads w B 1 A n (xs.map (Value.int .i64))) (hB:B<=w.heap.size) (hg:0 < n -> ∀ ad,A=some ad->ad.block ≠ g /\ ∀ sv,Blk w g 184 #[sv]->sv.ownBlock ≠ some ad.block) :
  Calls Tryz.prog 75 #[.pointer (some ⟨g,0,none⟩),.slice A n c] w fun (e:Ending) w' =>
   (xs.all ofitsB=true/\e=.returned (.int .i64 0)/\Wr base w' g (bs ++ xs.flatMap be)/\Fr base [g] w w') \/
   (xs.all ofitsB=false/\e=.returned (.int .i64 2)/\w=w'):=by
 have hl:xs.length=n:=(by simpa using hr.1);obtain ⟨sv0,hblk0,hown0⟩:=hw
 have hg':0 < n -> ∀ ad,A=some ad->ad.block ∉ (g :: sv0.ownBlock.toList):=by
  intro h0 ad e hm;obtain ⟨h1,h2⟩:=hg h0 ad e
  rcases List.mem_cons.1 hm with h | h
  · exact h1 h
  · exact h2 sv0 hblk0 (by simpa using h)
 have G':=zh hg';clear hg hg';go_enter Tryz.func75,Tryz.ntmps75;go_wp2_with fail;go_loop [14] (fun i=>∃ k:Nat,k<=n/\i=.int .i64 k/\(xs.take k).all ofitsB=true) (fun i=>n - (intOf i).toNat)
 case atStart=>exact ⟨0,Nat.zero_le _,rfl,by simp⟩
 case round =>
  obtain ⟨k,hk,rfl,hall⟩:=hrel
  by_cases hlt:k < n
  ·
   obtain ⟨b,off,u,rfl,hb,hu,hcell⟩:=hr.one hlt;obtain ⟨x,hx,rfl⟩:∃ x,xs[k]?=some x/\Value.int .i64 x=u:=by simpa using hu
   have H:=zh hall;have Hx:=zh hx;clear hall hx hu;have Hl:=zh hl;clear hl
   by_cases hf:ofitsB x=true
   ·
    have hfd:decide (-2147483648<=x/\x<=2147483647)=true:=hf;have Hf:=zh hf;clear hf;go_wp2_with (go_at_call 113;refine (ofits_any _ _).mono ?_;rintro e w' ⟨rfl,rfl⟩);go_round
    case rel=>exact ⟨k+1,by omega,by go_num,by rw [List.take_add_one,Hx.out];simp [H.out,Hf.out]⟩
    case measure=>simp [intOf];omega
   ·
    have hf':decide (-2147483648<=x/\x<=2147483647)=false:=by simpa [ofitsB] using hf
    have Hf:=zh hf;clear hf;go_wp2_with (go_at_call 113;refine (ofits_any _ _).mono ?_;rintro e w' ⟨rfl,rfl⟩);go_ret;refine .inr ⟨?_,rfl,rfl⟩;have hm:=List.mem_of_getElem? Hx.out;simp only [List.all_eq_false];exact ⟨x,hm,Hf.out⟩
  ·
   obtain rfl:k=n:=by omega
   have Hall:=zh hall;have Hl:=zh hl;clear hall hl;clear hk hlt;go_wp2_with fail;go_loopw [24] (fun i wr=>∃ j:Nat,j<=k/\i=.int .i64 j/\(∃ sv,Blk wr g 184 #[sv]/\wr.ownsRow base 5 1 sv (bs ++ (xs.take j).flatMap be).length ((bs ++ (xs.take j).flatMap be).map (Value.int .u8))/\(∀ q,sv.ownBlock=some q->q ∈ sv0.ownBlock.toList \/ w.heap.size<=q))/\Fr w.heap.size (g :: sv0.ownBlock.toList) w wr) (fun i _=>k - (intOf i).toNat)
   case atStart=>exact ⟨0,Nat.zero_le _,rfl,⟨sv0,hblk0,by simpa using hown0,fun q hq=>.inl (by simpa using hq)⟩,Fr.refl _ _ _⟩
   case round =>
    obtain ⟨j,hj,rfl,⟨sv,hblk,hown,hown'⟩,hfr⟩:=hrel
    by_cases hlt:j < k
    ·
     obtain ⟨b,off,u,rfl,hb,hu,hcell⟩:=(hr.frL hfr hB G'.out).one hlt;obtain ⟨x,hx,rfl⟩:∃ x,xs[j]?=some x/\Value.int .i64 x=u:=by simpa using hu
     have hxf:ofitsB x=true:=by
      have h:=Hall.out;rw [List.take_of_length_le (Nat.le_of_eq Hl.out)] at h;exact List.all_eq_true.1 h x (List.mem_of_getElem? hx)
     obtain ⟨hx1,hx2⟩:-2147483648<=x/\x<=2147483647:=of_decide_eq_true hxf;have Hx:=zh hx;clear hx hu hxf;have hsv:=hblk.cell 0;have hfz:=hblk.frozen 0;obtain ⟨N,hN⟩:=nm ((bs ++ List.flatMap be (List.take j xs)).length);rw [<- hN] at hown
     have hbl:N<=100000000:=by
      rw [hN,List.length_append,bes_length,List.length_take];omega
     have hgb:=hblk.lt;have hne:some g ≠ sv.ownBlock:=Blk.ne_own hblk hown (by decide);have OW:=zh hown';clear hown';have HN:=zh hN;have Hfr:=zh hfr;have hsz:=hfr.size;have Hr:=zh hr;clear hfr hr hN;go_wp2_with (at_builtin;refine wpList_app_lit _ rfl (.tmp 35) (.tmp 47) bytesTy rfl base sv _ _ rfl hown 4 4 _ rfl rfl (by simp [Value.oneCell']) (by omega) (by omega) (by omega) ?_;intro A' c' w1 hown1 hg1 hat1;have hblk1:Blk w1 g 184 #[sv]:=(hblk.alloc _).grown hg1 hne;have hc1:=hblk1.cell 0;have hf1:=hblk1.frozen 0);go_roundw
     case rel =>
      have hxs:xs.take (j+1)=xs.take j ++ [x]:=(by rw [List.take_add_one,Hx.out];rfl)
      have hown2:(w1.setCell ⟨g,0,none⟩ (.slice A' (N+4) c')).ownsRow base 5 1 (.slice A' (N+4) c') (N+4) ((bs ++ List.flatMap be (List.take (j+1) xs)).map (Value.int .u8)):=by
       have h0:(bs ++ List.flatMap be (List.take (j+1) xs)).map (Value.int .u8)=(bs ++ List.flatMap be (List.take j xs)).map (Value.int .u8) ++ (be x).map (Value.int .u8):=by
        rw [hxs,List.flatMap_append,<- List.append_assoc,List.map_append (l₁:=bs ++ List.flatMap be (List.take j xs))];simp [be]
       rw [h0];exact ownsRow_setCell_other hown1 (fun e=>Blk.ne_own hblk1 hown1 (by decide) e.symm) _
      refine ⟨j+1,by omega,by go_num,⟨_,hblk1.set_ 0 _,?_,?_⟩,?_⟩
      ·
       have h1:(bs ++ List.flatMap be (List.take (j+1) xs)).length=N+4:=by
        rw [HN.out,hxs];simp [be];omega
       rw [h1];exact hown2
      ·
       intro q hq
       rcases hat1 with h | h
       · exact OW.out q (by rw [<- h];exact hq)
       · rw [h] at hq;injection hq with hq;exact .inr (by omega)
      · exact (Hfr.out.trans (((Fr.refl _ _ wr).alloc (by omega) _).grown hg1 (by simp;omega) (fun q hq=>(OW.out q hq).elim (fun h=>.inr (List.mem_cons_of_mem _ h)) .inl))).setCell (.inr (by simp)) _
     case measure=>simp [intOf];omega
    ·
     obtain rfl:j=k:=by omega
     have Hfr:=zh hfr;clear hfr hr;go_wp2_with fail;go_ret;have h1:xs.take j=xs:=List.take_of_length_le (Nat.le_of_eq Hl.out);rw [h1] at hown
     exact .inl ⟨by have := Hall.out; rwa [h1] at this, rfl, ⟨sv, hblk, hown⟩, Hfr.out.mono hbase (fun q hq hlt => by
      rcases List.mem_cons.1 hq with h | h
      · simp [h]
      ·
       have:=hown0.lt q (by simpa using h)
       omega)⟩

theorem out_any (base g:Nat) (bs:List Int) (w:World) (hw:Wr base w g bs) :
  Calls Tryz.prog 76 #[.pointer (some ⟨g,0,none⟩)] w fun e w'=>e=.returned (.string (strOfNums bs))/\w=w':=by
 obtain ⟨sv,hblk,hown⟩:=hw;have hc:=hblk.cell 0;have hcv:=run_convert_own Tryz.underlying57 Tryz.underlying5 Tryz.underlying9 hown;clear hown hblk;go_enter Tryz.func76,Tryz.ntmps76;go_wp2_with fail;go_ret;exact ⟨rfl,rfl⟩

theorem be_range (n:Int):∀ x ∈ be n,0<=x/\x < 256:=by
 intro x hx;simp only [be,List.mem_cons,List.not_mem_nil,or_false] at hx;omega
theorem Wr.new (w:World) (base:Nat):Wr base (w.alloc (.cells #[.slice none 0 0] 184)) w.heap.size [] :=
 ⟨_,Blk.new _ _ _,World.ownsRow_nil _ _ _ _⟩
theorem Wr.fr {base g:Nat} {w w':World} {bs:List Int} {B:Nat} {L:List Nat} (h:Wr base w g bs) (hb:Fr B L w w') (hg:g < B) (hB:w.heap.size<=B) (hL:∀ k ∈ L,k ≠ g/\k < base):Wr base w' g bs:=by
 obtain ⟨sv,h1,h2⟩:=h;exact ⟨sv,h1.fr hb hg (fun hm=>(hL _ hm).1 rfl),ownsRow_fr h2 hb (fun k hk=>⟨by have:=(h2.lt k hk).2;omega,fun hm=>by have:=(hL _ hm).2;have:=(h2.lt k hk).1;omega⟩)⟩
theorem Wr.apart_new {base g:Nat} {w w':World} {bs:List Int} (h:Wr base w g bs) (hf:Fr w.heap.size [] w w'):w.heap.size ≠ g /\ ∀ sv,Blk w' g 184 #[sv]->sv.ownBlock ≠ some w.heap.size:=by
 obtain ⟨sv',h1,h2⟩:=h;refine ⟨by have:=h1.lt;omega,fun sv hsv he => ?_⟩;have h3:=hsv.cell 0;rw [(h1.fr hf h1.lt (by simp)).cell 0] at h3;injection h3 with h3
 have h3:sv'=sv:=h3;have:=h2.lt w.heap.size (by rw [h3];exact he);omega
abbrev Rd (w:World) (g:Nat) (s:ByteArray):Prop:=Blk w g 260 #[.string s]

theorem new_any (s:ByteArray) (w:World):Calls Tryz.prog 115 #[.string s] w fun e w'=>e=.returned (.pointer (some ⟨w.heap.size,0,none⟩))/\w'=w.alloc (.cells #[.string s] 260):=by
 go_enter Tryz.func115,Tryz.ntmps115;go_wp2_with fail;go_ret;exact ⟨rfl,rfl⟩

theorem peek_short (g:Nat) (s:ByteArray) (w:World) (h:Rd w g s) (hs:s.size < 4):Calls Tryz.prog 165 #[.pointer (some ⟨g,0,none⟩)] w fun e w'=>e=.returned (.tuple #[.int .i64 0,.int .i64 3])/\w=w':=by
 have hc:=h.cell 0;clear h;go_enter Tryz.func165,Tryz.ntmps165;go_wp2_with fail;go_ret2;exact ⟨rfl,rfl⟩

def fourU (l:List Int) (k:Nat):Int:=(l.take k).foldl (fun u c=>u * 256+c) 0
def fourI (u:Int):Int:=if u < 2147483648 then u else u - 4294967296
theorem fourU_bound {l:List Int} (h:∀ x ∈ l,0<=x/\x < 256) (k:Nat):0<=fourU l k/\(k<=3->fourU l k < 16777216)/\(k<=4->fourU l k < 4294967296):=by
 match k with
 | 0=>simp [fourU]
 | 1=>match l with
  | []=>simp [fourU]
  | a :: _=>have:=h a (by simp);simp [fourU];omega
 | 2=>match l with
  | []=>simp [fourU]
  | [a]=>have:=h a (by simp);simp [fourU];omega
  | a :: b :: _=>have:=h a (by simp);have:=h b (by simp);simp [fourU];omega
 | 3=>match l with
  | []=>simp [fourU]
  | [a]=>have:=h a (by simp);simp [fourU];omega
  | [a,b]=>have:=h a (by simp);have:=h b (by simp);simp [fourU];omega
  | a :: b :: c :: _=>have:=h a (by simp);have:=h b (by simp);have:=h c (by simp);simp [fourU];omega
 | 4=>match l with
  | []=>simp [fourU]
  | [a]=>have:=h a (by simp);simp [fourU];omega
  | [a,b]=>have:=h a (by simp);have:=h b (by simp);simp [fourU];omega
  | [a,b,c]=>have:=h a (by simp);have:=h b (by simp);have:=h c (by simp);simp [fourU];omega
  | a :: b :: c :: d :: _=>have:=h a (by simp);have:=h b (by simp);have:=h c (by simp);have:=h d (by simp);simp [fourU];omega
 | n+5 =>
  refine ⟨?_,fun h=>by omega,fun h=>by omega⟩;have hm:∀ x ∈ l.take (n+5),0<=x/\x < 256:=fun x hx=>h x (List.mem_of_mem_take hx)
  show 0<=List.foldl _ 0 _
  generalize l.take (n+5)=m at hm
  have key:∀ (u:Int),0<=u->0<=m.foldl (fun u c=>u * 256+c) u:=by
   clear h
   induction m with
   | nil=>intro u hu;exact hu
   | cons a m ih =>
    intro u hu;have:=hm a (by simp);exact ih (fun x hx=>hm x (by simp [hx])) _ (show 0<=u * 256+a by omega)
  exact key 0 (by omega)
theorem fourU_succ (l:List Int) (k:Nat) {x:Int} (h:l[k]?=some x):fourU l (k+1)=fourU l k * 256+x:=by
 unfold fourU;rw [List.take_add_one,h];simp
def numOf (s:ByteArray):Int:=fourI (fourU (bl s) 4)

theorem or_u32 {U x:Int} (h0:0<=U) (h1:U < 16777216) (h2:0<=x) (h3:x < 256):bits .or .u32 (U * 256) x=U * 256+x:=by
 rw [Go.u32_or _ _ (by omega) (by omega) h2 (by omega)];have h:(U * 256).toNat=2 ^ 8 * U.toNat:=(by omega);rw [h,<- Nat.two_pow_add_eq_or_of_lt (by omega)];omega

theorem peek_any (g:Nat) (s:ByteArray) (w:World) (h:Rd w g s) (hs:¬ s.size < 4) (hm:s.size<=maxLen):Calls Tryz.prog 165 #[.pointer (some ⟨g,0,none⟩)] w fun e w'=>e=.returned (.tuple #[.int .i64 (numOf s),.int .i64 0])/\Fr w.heap.size [] w w':=by
 have hc:=h.cell 0;unfold maxLen at hm;clear h;obtain ⟨c,w1,hconv,hrd,hfr,hz,hcap⟩:=conv_bytes (P:=Tryz.prog) (w:=w) (s.extract 0 4) Tryz.underlying9 Tryz.underlying57 Tryz.underlying5;have e4:(s.extract 0 4).size=4:=(by rw [ByteArray.size_extract];omega);rw [e4] at hconv hrd;rw [bl_extract,List.drop_zero] at hrd;have Hfr:=zh hfr;have Hrd:=zh hrd;have Hz:=zh hz;clear hfr hrd hz e4;go_enter Tryz.func165,Tryz.ntmps165;go_wp2_with fail;go_loop [4,24] (fun u i=>∃ k:Nat,k<=4/\i=.int .i64 k/\u=.int .u32 (fourU (bl s) k)) (fun _ i=>4 - (intOf i).toNat)
 case atStart=>exact ⟨0,by omega,rfl,rfl⟩
 case round =>
  obtain ⟨k,hk,rfl,rfl⟩:=hrel
  by_cases hlt:k < 4
  ·
   obtain ⟨b,off,u,e0,hb,hu,hcell⟩:=Hrd.out.one hlt
   obtain ⟨x,hx,rfl⟩:∃ x,(bl s)[k]?=some x/\Value.int .u8 x=u:=by
    rw [List.getElem?_map,List.getElem?_take,if_pos hlt] at hu;simpa using hu
   injection e0 with e0
   injection e0 with e1 e2
   subst e1;subst e2;rw [Nat.zero_add] at hcell;have hi:(k:Int) < 4:=(by omega);obtain ⟨h0,h1,h2⟩:=fourU_bound (bl_range s) k;have h1':=h1 (by omega);obtain ⟨hx1,hx2⟩:=bl_range s x (List.mem_of_getElem? hx);have hn:=fourU_succ (bl s) k hx;have HN:=zh hn;have HX:=zh hx;clear hn hx hu h1 h2;generalize hU:fourU (bl s) k=U at *;have HU:=zh hU;clear hU;go_wp2_with fail;go_round
   case rel=>exact ⟨k+1,by omega,by go_num,by rw [or_u32 h0 h1' hx1 hx2,HN.out]⟩
   case measure=>simp [intOf];omega
  ·
   obtain rfl:k=4:=by omega
   obtain ⟨h0,h1,h2⟩:=fourU_bound (bl_range s) 4;have h2':=h2 (by omega);clear h1 h2;have hN:numOf s=fourI (fourU (bl s) 4):=rfl;generalize fourU (bl s) 4=U at *;have HN:=zh hN;clear hN
   by_cases hU:U < 2147483648
   · go_wp2_with fail;go_ret2;have hv:numOf s=U:=(by rw [HN.out,fourI,if_pos hU]);refine ⟨?_,Hfr.out⟩;rw [hv];rfl
   · go_wp2_with fail;go_ret2;have hv:numOf s=wrap64 (wrap32 U):=(by rw [HN.out,fourI,if_neg (by omega)];unfold wrap64 wrap32;omega);refine ⟨?_,Hfr.out⟩;rw [hv];rfl

theorem numOf_bounds (s:ByteArray):-2147483648<=numOf s/\numOf s<=2147483647:=by
 obtain ⟨h0,_,h2⟩:=fourU_bound (bl_range s) 4;have h3:=h2 (by omega);unfold numOf fourI
 split <;> omega

def withinOf (s:ByteArray) (a b:Int):Int × Int × ByteArray :=
 if s.size < 4 then (0,3,s) else if numOf s < a \/ b < numOf s then (0,2,s) else (numOf s,0,s.extract 4 s.size)

theorem within_any (g:Nat) (s:ByteArray) (a b:Int) (w:World) (h:Rd w g s) (hm:s.size<=maxLen) :
  Calls Tryz.prog 142 #[.pointer (some ⟨g,0,none⟩),.int .i64 a,.int .i64 b] w fun e w' =>
   e=.returned (.tuple #[.int .i64 (withinOf s a b).1,.int .i64 (withinOf s a b).2.1])/\Rd w' g (withinOf s a b).2.2/\Fr w.heap.size [g] w w':=by
 by_cases hs:s.size < 4
 · have hv:withinOf s a b=(0,3,s):=if_pos hs;rw [hv];have Hv:=zh hv;clear hv;go_enter Tryz.func142,Tryz.ntmps142;go_wp2_with (go_at_call 165;refine (peek_short _ _ _ h hs).mono ?_;rintro e w' ⟨rfl,rfl⟩);go_ret2;exact ⟨rfl,h,Fr.refl _ _ _⟩
 have hmm:=hm;unfold maxLen at hm;obtain ⟨hb1,hb2⟩:=numOf_bounds s
 by_cases h1:numOf s < a
 ·
  have hv:withinOf s a b=(0,2,s):=by rw [withinOf,if_neg hs,if_pos (.inl h1)]
  rw [hv];have Hv:=zh hv;clear hv;go_enter Tryz.func142,Tryz.ntmps142;go_wp2_with (go_at_call 165;refine (peek_any _ _ _ h hs hmm).mono ?_;rintro e w' ⟨rfl,hf⟩);go_ret2;exact ⟨rfl,h.fr hf h.lt (by simp),hf.mono (Nat.le_refl _) (by simp)⟩
 by_cases h2:b < numOf s
 ·
  have hv:withinOf s a b=(0,2,s):=by rw [withinOf,if_neg hs,if_pos (.inr h2)]
  rw [hv];have Hv:=zh hv;clear hv;go_enter Tryz.func142,Tryz.ntmps142;go_wp2_with (go_at_call 165;refine (peek_any _ _ _ h hs hmm).mono ?_;rintro e w' ⟨rfl,hf⟩);go_ret2;exact ⟨rfl,h.fr hf h.lt (by simp),hf.mono (Nat.le_refl _) (by simp)⟩
 ·
  have hv:withinOf s a b=(numOf s,0,s.extract 4 s.size):=by rw [withinOf,if_neg hs,if_neg (by omega)]
  rw [hv];have Hv:=zh hv;clear hv;go_enter Tryz.func142,Tryz.ntmps142;go_wp2_with (go_at_call 165;refine (peek_any _ _ _ h hs hmm).mono ?_;rintro e w' ⟨rfl,hf⟩;have hr1:=h.fr hf h.lt (by simp);have hc:=hr1.cell 0;have hz:=hr1.frozen 0);go_ret2;exact ⟨rfl,hr1.set_ 0 _,(hf.mono (Nat.le_refl _) (by simp)).setCell (.inr (by simp)) _⟩

def rnumOf (s:ByteArray):Int × Int × ByteArray:=if s.size < 4 then (0,3,s) else (numOf s,0,s.extract 4 s.size)
theorem rnumOf_eq (s:ByteArray):withinOf s (-2147483648) 2147483647=rnumOf s:=by
 obtain ⟨h1,h2⟩:=numOf_bounds s;unfold withinOf rnumOf
 by_cases hs:s.size < 4
 · rw [if_pos hs,if_pos hs]
 · rw [if_neg hs,if_neg hs,if_neg (by omega)]
theorem rnum_any (g:Nat) (s:ByteArray) (w:World) (h:Rd w g s) (hm:s.size<=maxLen) :
  Calls Tryz.prog 116 #[.pointer (some ⟨g,0,none⟩)] w fun e w' =>
   e=.returned (.tuple #[.int .i64 (rnumOf s).1,.int .i64 (rnumOf s).2.1])/\Rd w' g (rnumOf s).2.2/\Fr w.heap.size [g] w w':=by
 have hw:=within_any g s (-2147483648) 2147483647 w h hm;rw [rnumOf_eq] at hw;generalize rnumOf s=r at *;go_enter Tryz.func116,Tryz.ntmps116;go_wp2_with (go_at_call 142;refine hw.mono ?_;rintro e w' ⟨rfl,hr,hf⟩);go_ret2;exact ⟨rfl,hr,hf⟩

theorem isEmpty_of_size {s:ByteArray}:s.toList.isEmpty=decide (s.size=0):=by
 rw [ByteArray.toList_eq];have:s.data.toList.length=s.size:=(by rw [Array.length_toList];rfl)
 cases h:s.data.toList with
 | nil=>rw [h] at this;simp at this;simp [<- this]
 | cons a l =>
  rw [h,List.length_cons] at this;have h0:¬ s.size=0:=(by omega);simp [h0]

def boF (o:Int):Int:=if o=1 \/ o=2 then -524288 else if o=4 \/ o=5 then 0 else if o=15 \/ o=16 then 1 else 0
def boT (o:Int):Int:=if o=1 \/ o=2 then 524287 else if o=4 \/ o=5 then 1 else if o=15 \/ o=16 then 24 else 0
def boB (o:Int):Bool:=decide (o=1 \/ o=2 \/ o=4 \/ o=5 \/ o=15 \/ o=16)
theorem bo_other {o:Int} (h:¬ (o=1 \/ o=2 \/ o=4 \/ o=5 \/ o=15 \/ o=16)):boF o=0/\boT o=0/\boB o=false:=by
 refine ⟨?_,?_,?_⟩
 · unfold boF;rw [if_neg (by omega),if_neg (by omega),if_neg (by omega)]
 · unfold boT;rw [if_neg (by omega),if_neg (by omega),if_neg (by omega)]
 · unfold boB;exact decide_eq_false h
theorem bounds_any (o:Int) (w:World):Calls Tryz.prog 210 #[.int .i64 o] w fun e w'=>e=.returned (.tuple #[.int .i64 (boF o),.int .i64 (boT o),.bool (boB o)])/\w=w':=by
 by_cases h:o=1 \/ o=2 \/ o=4 \/ o=5 \/ o=15 \/ o=16
 ·
  rcases h with rfl | rfl | rfl | rfl | rfl | rfl
  ·
   show Calls _ _ _ _ fun e w'=>e=.returned (.tuple #[.int .i64 (-524288),.int .i64 524287,.bool true])/\w=w'
   go_enter Tryz.func210,Tryz.ntmps210;go_wp2_with fail;go_ret3;exact ⟨rfl,rfl⟩
  ·
   show Calls _ _ _ _ fun e w'=>e=.returned (.tuple #[.int .i64 (-524288),.int .i64 524287,.bool true])/\w=w'
   go_enter Tryz.func210,Tryz.ntmps210;go_wp2_with fail;go_ret3;exact ⟨rfl,rfl⟩
  ·
   show Calls _ _ _ _ fun e w'=>e=.returned (.tuple #[.int .i64 0,.int .i64 1,.bool true])/\w=w'
   go_enter Tryz.func210,Tryz.ntmps210;go_wp2_with fail;go_ret3;exact ⟨rfl,rfl⟩
  ·
   show Calls _ _ _ _ fun e w'=>e=.returned (.tuple #[.int .i64 0,.int .i64 1,.bool true])/\w=w'
   go_enter Tryz.func210,Tryz.ntmps210;go_wp2_with fail;go_ret3;exact ⟨rfl,rfl⟩
  ·
   show Calls _ _ _ _ fun e w'=>e=.returned (.tuple #[.int .i64 1,.int .i64 24,.bool true])/\w=w'
   go_enter Tryz.func210,Tryz.ntmps210;go_wp2_with fail;go_ret3;exact ⟨rfl,rfl⟩
  ·
   show Calls _ _ _ _ fun e w'=>e=.returned (.tuple #[.int .i64 1,.int .i64 24,.bool true])/\w=w'
   go_enter Tryz.func210,Tryz.ntmps210;go_wp2_with fail;go_ret3;exact ⟨rfl,rfl⟩
 · obtain ⟨e1,e2,e3⟩:=bo_other h;rw [e1,e2,e3];clear e1 e2 e3;have h1:(o == 1)=false:=(by simp;omega);have h2:(o == 2)=false:=(by simp;omega);have h4:(o == 4)=false:=(by simp;omega);have h5:(o == 5)=false:=(by simp;omega);have h15:(o == 15)=false:=(by simp;omega);have h16:(o == 16)=false:=(by simp;omega);clear h;go_enter Tryz.func210,Tryz.ntmps210;go_wp2_with fail;go_ret3;exact ⟨rfl,rfl⟩
def rightB (i:Int × Int):Bool:=decide (0<=i.1/\i.1 < 18/\boF i.1<=i.2/\i.2<=boT i.1)
theorem cright_any (i:Int × Int) (w:World):Calls Tryz.prog 198 #[.agg #[.int .i64 i.1,.int .i64 i.2]] w fun e w'=>e=.returned (.bool (rightB i))/\Fr w.heap.size [] w w':=by
 obtain ⟨o,a⟩:=i;obtain ⟨v,hv⟩:=nm (rightB (o,a));rw [<- hv];unfold rightB at hv;have HB:=zh (bounds_any o);simp only at hv ⊢;generalize boF o=f at *;generalize boT o=t at *;generalize boB o=b at *
 by_cases c1:o < 0
 ·
  obtain rfl:v=false:=by rw [hv];exact decide_eq_false (by omega)
  clear hv;go_enter Tryz.func198,Tryz.ntmps198;go_wp2_with fail;refine (HB.out _).mono ?_;rintro e w' ⟨rfl,rfl⟩;go_wp2_with fail;go_ret;exact ⟨rfl,(Fr.refl _ _ _).alloc (Nat.le_refl _) _⟩
 by_cases c2:o < 18
 case neg =>
  obtain rfl:v=false:=by rw [hv];exact decide_eq_false (by omega)
  clear hv;go_enter Tryz.func198,Tryz.ntmps198;go_wp2_with fail;refine (HB.out _).mono ?_;rintro e w' ⟨rfl,rfl⟩;go_wp2_with fail;go_ret;exact ⟨rfl,(Fr.refl _ _ _).alloc (Nat.le_refl _) _⟩
 by_cases c3:a < f
 ·
  obtain rfl:v=false:=by rw [hv];exact decide_eq_false (by omega)
  clear hv;go_enter Tryz.func198,Tryz.ntmps198;go_wp2_with fail;refine (HB.out _).mono ?_;rintro e w' ⟨rfl,rfl⟩;go_wp2_with fail;go_ret;exact ⟨rfl,(Fr.refl _ _ _).alloc (Nat.le_refl _) _⟩
 by_cases c4:t < a
 ·
  obtain rfl:v=false:=by rw [hv];exact decide_eq_false (by omega)
  clear hv;have hd:decide (a<=t)=false:=decide_eq_false (by omega);go_enter Tryz.func198,Tryz.ntmps198;go_wp2_with fail;refine (HB.out _).mono ?_;rintro e w' ⟨rfl,rfl⟩;go_wp2_with fail;go_ret;exact ⟨rfl,(Fr.refl _ _ _).alloc (Nat.le_refl _) _⟩
 ·
  obtain rfl:v=true:=by rw [hv];exact decide_eq_true (by omega)
  clear hv;go_enter Tryz.func198,Tryz.ntmps198;go_wp2_with fail;refine (HB.out _).mono ?_;rintro e w' ⟨rfl,rfl⟩;go_wp2_with fail;go_ret;exact ⟨rfl,(Fr.refl _ _ _).alloc (Nat.le_refl _) _⟩
def insC (x:Int × Int):List Value:=[.int .i64 x.1,.int .i64 x.2]
def cellsI (l:List (Int × Int)):List Value:=l.flatMap insC
theorem cellsI_length (l:List (Int × Int)):(cellsI l).length=l.length * 2:=by
 unfold cellsI
 induction l with
 | nil=>rfl
 | cons x l ih=>rw [List.flatMap_cons,List.length_append,ih];simp [insC];omega
theorem cellsI_get:∀ {l:List (Int × Int)} {k:Nat} {x:Int × Int},l[k]?=some x->(cellsI l)[k * 2]?=some (.int .i64 x.1)/\(cellsI l)[k * 2+1]?=some (.int .i64 x.2)
 | [],k,x,h=>by simp at h
 | y :: l,0,x,h=>by
  simp at h;subst h;exact ⟨rfl,rfl⟩
 | y :: l,k+1,x,h=>by
  have ih:=cellsI_get (l:=l) (k:=k) (x:=x) (by simpa using h);have e:cellsI (y :: l)=.int .i64 y.1 :: .int .i64 y.2 :: cellsI l:=rfl;rw [e,show (k+1) * 2=k * 2+1+1 by omega];exact ih
theorem reads_ins {w:World} {B:Nat} {A:Option Addr} {l:List (Int × Int)} (h:Reads w B 2 A l.length (cellsI l)) {k:Nat} {x:Int × Int} (hx:l[k]?=some x) :
  ∃ b off,A=some ⟨b,off,none⟩/\b < B/\w.cell? ⟨b,off+k * 2,none⟩=some (.int .i64 x.1)/\w.cell? ⟨b,off+k * 2+1,none⟩=some (.int .i64 x.2):=by
 have hk:k < l.length:=by
  rcases Nat.lt_or_ge k l.length with h' | h'
  · exact h'
  · rw [List.getElem?_eq_none h'] at hx;cases hx
 obtain ⟨b,off,e,hb,hc⟩:=h.2 (by omega);obtain ⟨h1,h2⟩:=cellsI_get hx;exact ⟨b,off,e,hb,hc _ _ h1,by rw [Nat.add_assoc];exact hc _ _ h2⟩
def fitsB (l:List (Int × Int)):Bool:=decide (l.length<=24) && l.all rightB
theorem wrong_any (i:Int × Int) (w:World):Calls Tryz.prog 197 #[.agg #[.int .i64 i.1,.int .i64 i.2]] w fun e w'=>e=.returned (.bool (!rightB i))/\Fr w.heap.size [] w w':=by
 have H:=zh (cright_any i);generalize rightB i=v at *;go_enter Tryz.func197,Tryz.ntmps197;go_wp2_with fail;refine (H.out _).mono ?_;rintro e w1 ⟨rfl,f1⟩;have F1:=zh (((Fr.refl _ _ _).alloc (Nat.le_refl _) _).trans (f1.mono (by simp) (by simp)):Fr w.heap.size [] w w1);clear f1;go_wp2_with fail;go_ret;exact ⟨rfl,F1.out⟩
def SomeIdx (b:Bool) (w:World) (e:Ending) (w':World):Prop:=∃ i:Int,e=.returned (.int .i64 i)/\(decide (0<=i)=b)/\Fr w.heap.size [] w w'
theorem all_take_succ {f:Int × Int->Bool} {l:List (Int × Int)} {k:Nat} {x:Int × Int} (h:l[k]?=some x):(l.take (k+1)).all f=((l.take k).all f && f x):=by
 rw [List.take_add_one,h,List.all_append];simp
theorem all_bad {f:Int × Int->Bool} {l:List (Int × Int)} {k:Nat} {x:Int × Int} (h:l[k]?=some x) (hf:f x=false):l.all f=false:=by
 rw [List.all_eq_false];exact ⟨x,List.mem_of_getElem? h,by simp [hf]⟩
theorem iindex_any (A:Option Addr) (c B:Nat) (l:List (Int × Int)) (w:World) (hr:Reads w B 2 A l.length (cellsI l)) (hB:B<=w.heap.size) (hn:l.length<=maxLen) :
  Calls Tryz.prog 211 #[.slice A l.length c,.func (.func 197) #[] #[]] w (SomeIdx (!l.all rightB) w):=by
 unfold maxLen at hn;have HR:=zh hr;obtain ⟨n,hnl⟩:=nm (l.length);rw [<- hnl] at hn ⊢;have HN:=zh hnl;clear hr hnl;go_enter Tryz.func211,Tryz.ntmps211;go_wp2_with fail;go_loopw [8] (fun i wr=>∃ k:Nat,k<=n/\i=.int .i64 k/\Hid ((l.take k).all rightB=true)/\Hid (Fr w.heap.size [] w wr)) (fun i _=>n - (intOf i).toNat)
 case atStart=>exact ⟨0,Nat.zero_le _,rfl,rfl,Fr.refl _ _ _⟩
 case round =>
  obtain ⟨k,hk,rfl,HA,HF⟩:=hrel
  by_cases hlt:k < n
  ·
   obtain ⟨x,hx⟩:∃ x,l[k]?=some x:=⟨_,List.getElem?_eq_getElem (by rw [<- HN.out];exact hlt)⟩;obtain ⟨b,off,rfl,hb,c1,c2⟩:=reads_ins (HR.out.fr HF.out hB (by simp)) hx;have hki:(k:Int) < (n:Int):=(by omega);have HX:=zh hx;clear hx;go_wp2_with fail;refine (wrong_any x _).mono ?_;rintro e w1 ⟨rfl,f1⟩;have F1:=zh (HF.out.nx f1);clear f1
   cases hrx:rightB x
   case false =>
    have HV:=zh (all_bad HX.out hrx);clear hrx;go_wp2_with fail;go_ret;exact ⟨k,rfl,by rw [HV.out];simp,F1.out⟩
   case true =>
    have HV:=zh hrx;clear hrx;go_wp2_with fail;go_roundw
    case rel=>exact ⟨k+1,by omega,by go_num,(by show _=_;rw [all_take_succ HX.out,HA.out,HV.out];rfl),F1.out⟩
    case measure=>simp [intOf];omega
  ·
   obtain rfl:n=k:=by omega
   go_wp2_with fail;go_ret;refine ⟨-1,rfl,?_,HF.out⟩;have h:=HA.out;rw [List.take_of_length_le (by rw [HN.out];exact Nat.le_refl _)] at h;rw [h];rfl
theorem icontains_any (A:Option Addr) (c B:Nat) (l:List (Int × Int)) (w:World) (hr:Reads w B 2 A l.length (cellsI l)) (hB:B<=w.heap.size) (hn:l.length<=maxLen) :
  Calls Tryz.prog 199 #[.slice A l.length c,.func (.func 197) #[] #[]] w fun e w'=>e=.returned (.bool (!l.all rightB))/\Fr w.heap.size [] w w':=by
 have H:=zh (iindex_any A c B l w hr hB hn);clear hr hn hB;go_enter Tryz.func199,Tryz.ntmps199;go_wp2_with fail;refine H.out.mono ?_;rintro e w' ⟨i,rfl,hi,hf⟩;have HI:=zh hi;have HF:=zh hf;clear hi hf;go_wp2_with fail;go_ret;exact ⟨by rw [<- HI.out];rfl,HF.out⟩
theorem fits_any (A:Option Addr) (c B:Nat) (l:List (Int × Int)) (w:World) (hr:Reads w B 2 A l.length (cellsI l)) (hB:B<=w.heap.size) (hn:l.length<=maxLen) :
  Calls Tryz.prog 183 #[.slice A l.length c] w fun e w'=>e=.returned (.bool (fitsB l))/\Fr w.heap.size [] w w':=by
 have H:=zh (icontains_any A c B l w hr hB hn);unfold maxLen at hn;clear hr;obtain ⟨v,hv⟩:=nm (fitsB l);rw [<- hv];unfold fitsB at hv;obtain ⟨n,hnl⟩:=nm (l.length);rw [<- hnl] at hn hv H ⊢;clear hnl
 by_cases h24:n<=24
 · rw [decide_eq_true h24,Bool.true_and] at hv;rw [<- hv] at H;have HV:=zh hv;clear hv;go_enter Tryz.func183,Tryz.ntmps183;go_wp2_with fail;refine H.out.mono ?_;rintro e w' ⟨rfl,hf⟩;have HF:=zh hf;clear hf;go_wp2_with fail;go_ret;exact ⟨by simp,HF.out⟩
 · rw [decide_eq_false h24,Bool.false_and] at hv;subst hv;go_enter Tryz.func183,Tryz.ntmps183;go_wp2_with fail;go_ret;exact ⟨rfl,Fr.refl _ _ _⟩
abbrev C8 (r:Nat->Int):Array Value:=#[.int .i64 (r 0),.int .i64 (r 1),.int .i64 (r 2),.int .i64 (r 3),.int .i64 (r 4),.int .i64 (r 5),.int .i64 (r 6),.int .i64 (r 7)]
abbrev A8 (r:Nat->Int):Value:=.agg (C8 r)
theorem C8_get (r:Nat->Int) {k:Nat} (h:k < 8):(C8 r)[k]?=some (.int .i64 (r k)):=by
 match k,h with
 | 0,_ | 1,_ | 2,_ | 3,_ | 4,_ | 5,_ | 6,_ | 7,_=>rfl
theorem intinfo:(Tryz.prog.info? 3).map (fun i=>(i.zero,i.size,i.bytes))=some (some (.int .i64 0),1,8):=by kernel_rfl
theorem index8 (r:Nat->Int) {k:Nat} (h:k < 8) (w:World):(Instr.index 64 (A8 r) (.int .i64 (k:Int))).run Tryz.prog w=.ok (.int .i64 (r k)) w:=by
 obtain ⟨i,hi,hz,hsz,hby⟩:=info_parts intinfo;exact run_index_arr Tryz.underlying64 Tryz.underlying3 hi hsz h (C8_get r h) w

theorem results_cell_row_tmp {P:Program} {fn:Func} {p q:Tmp} {ty:TypeId} (h:fn.results = #[.cell p ty,.tmp q]) (tmps:Array Value) (w:World) (g:Nat) (t:TypeId) (cs:Array Value) (fr:Nat × Nat) (d:TypeDesc)
  (hp:tmps.getD p undef=.pointer (some ⟨g,0,none⟩)) (hg:w.heap[g]?=some (.cells cs t fr))
  (hu:P.underlying ty=some d) (hd:(match d with | .struct _ | .array _ _=>true | _=>false)=true) (hi:(P.info? ty).map (·.size)=some cs.size) :
  (results fn tmps).run P w=.ok (.tuple #[.agg cs,tmps.getD q undef]) w:=by
 have hp':tmps[p]?.getD undef=.pointer (some ⟨g,0,none⟩):=(by simpa using hp);simp [results,h,hp',asAddr,run_loadVar_row w g t ty cs fr d hg hu hd hi]
def inTo (p:Int) (r:Nat->Int) (n:Nat):Bool:=(List.range n).all fun k=>decide (0<=r k/\r k < p)
theorem inTo_succ (p:Int) (r:Nat->Int) (k:Nat):inTo p r (k+1)=(inTo p r k && decide (0<=r k/\r k < p)):=by
 unfold inTo;rw [List.range_succ,List.all_append];simp
theorem inTo_bad {p:Int} {r:Nat->Int} {k n:Nat} (hk:k < n) (h:¬ (0<=r k/\r k < p)):inTo p r n=false:=by
 unfold inTo;rw [List.all_eq_false];exact ⟨k,by simpa using hk,by simpa using h⟩
def right8 (p:Int) (r:Nat->Int):Bool:=decide (1<=p/\p<=3) && inTo p r 8

theorem right_any (p:Int) (r:Nat->Int) (w:World):Calls Tryz.prog 54 #[.int .i64 p,A8 r] w fun e w'=>e=.returned (.bool (right8 p r))/\Fr w.heap.size [] w w':=by
 by_cases h1:p < 1
 ·
  have hv:right8 p r=false:=by simp [right8];omega
  rw [hv];clear hv;go_enter Tryz.func54,Tryz.ntmps54;go_wp2_with fail;go_ret;exact ⟨rfl,(Fr.refl _ _ _).alloc (Nat.le_refl _) _⟩
 by_cases h2:3 < p
 ·
  have hv:right8 p r=false:=by simp [right8];omega
  rw [hv];clear hv;go_enter Tryz.func54,Tryz.ntmps54;go_wp2_with fail;go_ret;exact ⟨rfl,(Fr.refl _ _ _).alloc (Nat.le_refl _) _⟩
 have hv:right8 p r=inTo p r 8:=by
  have:decide (1<=p/\p<=3)=true:=(by simp;omega);rw [right8,this,Bool.true_and]
 rw [hv];clear hv;go_enter Tryz.func54,Tryz.ntmps54;go_wp2_with fail;go_loop [14] (fun i=>∃ k:Nat,k<=8/\i=.int .i64 k/\inTo p r k=true) (fun i=>8 - (intOf i).toNat)
 case atStart=>exact ⟨0,by omega,rfl,rfl⟩
 case round =>
  obtain ⟨k,hk,rfl,hall⟩:=hrel
  by_cases hlt:k < 8
  ·
   have hx:=index8 r hlt;have HA:=zh hall;clear hall;have hnext:inTo p r (k+1)=decide (0<=r k/\r k < p):=(by rw [inTo_succ,HA.out];simp);have HN:=zh hnext;clear hnext
   have hbad:¬ (0<=r k/\r k < p)->inTo p r 8=false:=by
    exact inTo_bad hlt
   have HB:=zh hbad;clear hbad
   by_cases c1:r k < 0
   · go_wp2_with fail;go_ret;exact ⟨by rw [HB.out (by omega)];rfl,(Fr.refl _ _ _).alloc (Nat.le_refl _) _⟩
   by_cases c2:p<=r k
   · go_wp2_with fail;go_ret;exact ⟨by rw [HB.out (by omega)];rfl,(Fr.refl _ _ _).alloc (Nat.le_refl _) _⟩
   ·
    go_wp2_with fail;go_round
    case rel=>exact ⟨k+1,by omega,by go_num,by rw [HN.out];simp;omega⟩
    case measure=>simp [intOf];omega
  ·
   obtain rfl:k=8:=by omega
   have HA:=zh hall;clear hall;go_wp2_with fail;go_ret;exact ⟨by rw [HA.out];rfl,(Fr.refl _ _ _).alloc (Nat.le_refl _) _⟩

theorem group_any (k:Int) (w:World):Calls Tryz.prog 99 #[.int .i64 k] w fun e w'=>e=.returned (.int .i64 (k % 8))/\w=w':=by
 have t1:k=8 * k.tdiv 8+k.tmod 8:=(Int.mul_tdiv_add_tmod k 8).symm
 have t2:-8 < k.tmod 8/\k.tmod 8 < 8:=by
  rcases Int.le_total 0 k with h | h
  · rw [Int.tmod_eq_emod_of_nonneg h];omega
  · have:=Int.neg_tmod k 8;have h2:(-k).tmod 8=(-k) % 8:=Int.tmod_eq_emod_of_nonneg (by omega);omega
 obtain ⟨t3,t4⟩:=t2;have T:=zh t1;clear t1;go_enter Tryz.func99,Tryz.ntmps99;go_wp2_with fail;go_ret;have h:=T.out;have hv:(k.tmod 8+8) % 8=k % 8:=(by omega);exact ⟨by rw [<- hv];rfl,rfl⟩
theorem intsTy:SliceTy Tryz.prog 23 3 1 8:=SliceTy.mk' (z:=.int .i64 0) Tryz.underlying23 (by kernel_rfl) rfl (by omega)
theorem task_any (r:Nat->Int) (k:Int) (w:World):Calls Tryz.prog 63 #[A8 r,.int .i64 k] w fun e w'=>e=.returned (.int .i64 (r (k % 8).toNat))/\Fr w.heap.size [] w w':=by
 obtain ⟨m,hm⟩:=Int.eq_ofNat_of_zero_le (show 0<=k % 8 by omega);have hm':k % 8=(m:Int):=hm;have hm8:m < 8:=(by omega);have hg:=fun w=>group_any k w;rw [hm'] at hg ⊢;rw [Int.toNat_natCast];have HG:=zh hg;have hc:=(Blk.new w 64 (C8 r)).cell m;rw [C8_get r hm8] at hc;have hmi:(m:Int) < 8:=(by omega);clear hg hm hm';go_enter Tryz.func63,Tryz.ntmps63;go_wp2_with (go_at_call 99;refine (HG.out _).mono ?_;rintro e w' ⟨rfl,rfl⟩)

 go_ret;exact ⟨rfl,(Fr.refl _ _ _).alloc (Nat.le_refl _) _⟩
structure Nd where
 id:Int
 kind:Int
 par:Int
 fr:List Int
 pg:List (Int × Int)
 rt:Nat->Int
abbrev Ndm:=Nd × Value × Value
abbrev ndA (x:Nd) (sf sp:Value):Array Value:=#[.int .i64 x.id,.int .i64 x.kind,sf,sp,.int .i64 x.par,.int .i64 (x.rt 0),.int .i64 (x.rt 1),.int .i64 (x.rt 2),.int .i64 (x.rt 3),.int .i64 (x.rt 4),.int .i64 (x.rt 5),.int .i64 (x.rt 6),.int .i64 (x.rt 7)]
def ndL (m:Ndm):List Value:=(ndA m.1 m.2.1 m.2.2).toList
def cellsN (M:List Ndm):List Value:=M.flatMap ndL
theorem cellsN_length (M:List Ndm):(cellsN M).length=M.length * 13:=by
 unfold cellsN
 induction M with
 | nil=>rfl
 | cons x M ih=>rw [List.flatMap_cons,List.length_append,ih];simp [ndL];omega
theorem cellsN_app (a b:List Ndm):cellsN (a ++ b)=cellsN a ++ cellsN b:=by simp [cellsN]
theorem cellsN_get:∀ {M:List Ndm} {k:Nat} {m:Ndm},M[k]?=some m -> ∀ j,j < 13->(cellsN M)[k * 13+j]?=(ndL m)[j]?
 | [],k,x,h,_,_=>by simp at h
 | y :: l,0,x,h,j,hj=>by
  simp at h;subst h;rw [cellsN,List.flatMap_cons,Nat.zero_mul,Nat.zero_add,List.getElem?_append_left (by simp [ndL];omega)]
 | y :: l,k+1,x,h,j,hj=>by
  rw [cellsN,List.flatMap_cons,List.getElem?_append_right (by simp [ndL];omega)];have ih:=cellsN_get (M:=l) (k:=k) (m:=x) (by simpa using h) j hj;have e:(k+1) * 13+j - (ndL y).length=k * 13+j:=(by simp [ndL];omega);rw [e];exact ih
structure NdIn (w:World) (B:Nat) (m:Ndm):Prop where
 fr:∃ A c,m.2.1=.slice A m.1.fr.length c/\Reads w B 1 A m.1.fr.length (m.1.fr.map (Value.int .i64))
 pg:∃ A c,m.2.2=.slice A m.1.pg.length c/\Reads w B 2 A m.1.pg.length (cellsI m.1.pg)
theorem NdIn.frw {w w':World} {B B':Nat} {L:List Nat} {m:Ndm} (h:NdIn w B m) (hf:Fr B' L w w') (hB:B<=B') (hL:∀ k ∈ L,B<=k):NdIn w' B m:=by
 obtain ⟨⟨A,c,h1,h2⟩,⟨A',c',h3,h4⟩⟩:=h;exact ⟨⟨A,c,h1,h2.fr hf hB hL⟩,⟨A',c',h3,h4.fr hf hB hL⟩⟩
theorem NdIn.more {w:World} {B B':Nat} {m:Ndm} (h:NdIn w B m) (hB:B<=B'):NdIn w B' m:=by
 obtain ⟨⟨A,c,h1,h2⟩,⟨A',c',h3,h4⟩⟩:=h;exact ⟨⟨A,c,h1,h2.more hB⟩,⟨A',c',h3,h4.more hB⟩⟩
structure Nds (w:World) (B:Nat) (A:Option Addr) (n:Nat) (M:List Ndm):Prop where
 num:n=M.length
 rd:Reads w B 13 A n (cellsN M)
 inn:∀ m ∈ M,NdIn w B m
theorem Nds.frw {w w':World} {B B' n:Nat} {A:Option Addr} {L:List Nat} {M:List Ndm} (h:Nds w B A n M) (hf:Fr B' L w w') (hB:B<=B') (hL:∀ k ∈ L,B<=k):Nds w' B A n M :=
 ⟨h.num,h.rd.fr hf hB hL,fun m hm=>(h.inn m hm).frw hf hB hL⟩
theorem Nds.more {w:World} {B B' n:Nat} {A:Option Addr} {M:List Ndm} (h:Nds w B A n M) (hB:B<=B'):Nds w B' A n M :=
 ⟨h.num,h.rd.more hB,fun m hm=>(h.inn m hm).more hB⟩
theorem Nds.get {w:World} {B n:Nat} {A:Option Addr} {M:List Ndm} (h:Nds w B A n M) {k:Nat} {m:Ndm} (hk:M[k]?=some m) :
  ∃ b off,A=some ⟨b,off,none⟩/\b < B /\ ∀ j u,(ndL m)[j]?=some u->w.cell? ⟨b,off+k * 13+j,none⟩=some u:=by
 have hkn:k < n:=by
  rw [h.num]
  rcases Nat.lt_or_ge k M.length with h | h
  · exact h
  · rw [List.getElem?_eq_none h] at hk;cases hk
 obtain ⟨b,off,e,hb,hc⟩:=h.rd.2 (by omega);refine ⟨b,off,e,hb,fun j u hu => ?_⟩
 have hj:j < 13:=by
  rcases Nat.lt_or_ge j 13 with h | h
  · exact h
  · rw [List.getElem?_eq_none (by simp [ndL];omega)] at hu;cases hu
 rw [Nat.add_assoc];exact hc _ u (by rw [cellsN_get hk j hj];exact hu)
theorem iowns_empty (w:World):(w.alloc (.cells #[] 3)).ownsRow w.heap.size 3 1 (.slice (some ⟨w.heap.size,0,none⟩) 0 0) 0 []:=by
 refine ⟨rfl,.inr ⟨w.heap.size,0,#[],rfl,Nat.le_refl _,Blk.new _ _ _,?_⟩⟩;simp
theorem ints_nil (A:Option Addr) (n c:Nat) (w:World):(binOp .eql 23 (.slice A n c) (.slice none 0 0)).run Tryz.prog w=.ok (.bool A.isNone) w:=by
 simp only [binOp];simp [run_equal_slice_nil w _ _ A n c Tryz.underlying23]
theorem intC_one {l:List Int}:∀ u ∈ l.map (Value.int .i64),u.oneCell'=true:=by
 intro u hu;obtain ⟨x,_,rfl⟩:=List.mem_map.1 hu;rfl
theorem iclone_any (A:Option Addr) (n c B:Nat) (l:List Int) (w:World) (hl:n=l.length) (hn:n<=1000000) (hr:Reads w B 1 A n (l.map (Value.int .i64))) (hB:B<=w.heap.size) :
  Calls Tryz.prog 94 #[.slice A n c] w fun e w'=>∃ A' c',e=.returned (.slice A' n c')/\w'.ownsRow w.heap.size 3 1 (.slice A' n c') n (l.map (Value.int .i64))/\Fr w.heap.size [] w w':=by
 rcases A with _ | ad
 ·
  have h0:n=0:=by
   rcases Nat.eq_zero_or_pos n with h | h
   · exact h
   ·
    obtain ⟨b,off,e,_⟩:=hr.2 h
    cases e
  subst h0;have hle:l=[]:=List.eq_nil_of_length_eq_zero hl.symm;subst hle;have hq:∀ w,(binOp .eql 23 (.slice none 0 c) (.slice none 0 0)).run Tryz.prog w=.ok (.bool true) w:=ints_nil none 0 c;clear hr hn hl;go_enter Tryz.func94,Tryz.ntmps94;go_wp2_with fail;go_ret;exact ⟨none,0,rfl,World.ownsRow_nil _ _ _ _,Fr.refl _ _ _⟩
 · have ho:=iowns_empty w;have hf:=(Fr.refl w.heap.size [] w).alloc (Nat.le_refl _) (.cells #[] 3);have hr1:=hr.fr hf hB (by simp);have hs:w.heap.size < (w.alloc (.cells #[] 3)).heap.size:=(by simp);have hq:∀ w,(binOp .eql 23 (.slice (some ad) n c) (.slice none 0 0)).run Tryz.prog w=.ok (.bool false) w:=ints_nil (some ad) n c;clear hr hl;go_enter Tryz.func94,Tryz.ntmps94;go_wp2_with (at_builtin;refine wpList_app _ rfl (.tmp 5) (.tmp 6) intsTy rfl w.heap.size (.slice (some ⟨w.heap.size,0,none⟩) 0 0) 0 [] rfl ho B _ n _ (l.map (Value.int .i64)) rfl hr1 intC_one (by omega) (by omega) (by simp) ?_;intro A2 c2 w2 hown2 hg2 hat2);go_ret;rw [Nat.zero_add] at hown2;exact ⟨A2,c2,rfl,by simpa using hown2,hf.grown hg2 (by simp) (fun k hk=>.inl (by simp [Value.ownBlock] at hk;omega))⟩
theorem pgTy:SliceTy Tryz.prog 63 199 2 16:=SliceTy.mk' (z:=.agg #[.int .i64 0,.int .i64 0]) Tryz.underlying63 (by kernel_rfl) rfl (by omega)
theorem powns_empty (w:World):(w.alloc (.cells #[] 199)).ownsRow w.heap.size 199 2 (.slice (some ⟨w.heap.size,0,none⟩) 0 0) 0 []:=by
 refine ⟨rfl,.inr ⟨w.heap.size,0,#[],rfl,Nat.le_refl _,Blk.new _ _ _,?_⟩⟩;simp
theorem pgs_nil (A:Option Addr) (n c:Nat) (w:World):(binOp .eql 63 (.slice A n c) (.slice none 0 0)).run Tryz.prog w=.ok (.bool A.isNone) w:=by
 simp only [binOp];simp [run_equal_slice_nil w _ _ A n c Tryz.underlying63]
theorem insC_one {l:List (Int × Int)}:∀ u ∈ cellsI l,u.oneCell'=true:=by
 intro u hu;obtain ⟨x,_,hx⟩:=List.mem_flatMap.1 hu;simp only [insC,List.mem_cons,List.not_mem_nil,or_false] at hx
 rcases hx with rfl | rfl <;> rfl
theorem pclone_any (A:Option Addr) (n c B:Nat) (l:List (Int × Int)) (w:World) (hl:n=l.length) (hn:n<=1000000) (hr:Reads w B 2 A n (cellsI l)) (hB:B<=w.heap.size) :
  Calls Tryz.prog 130 #[.slice A n c] w fun e w'=>∃ A' c',e=.returned (.slice A' n c')/\w'.ownsRow w.heap.size 199 2 (.slice A' n c') n (cellsI l)/\Fr w.heap.size [] w w':=by
 rcases A with _ | ad
 ·
  have h0:n=0:=by
   rcases Nat.eq_zero_or_pos n with h | h
   · exact h
   ·
    obtain ⟨b,off,e,_⟩:=hr.2 h
    cases e
  subst h0;have hle:l=[]:=List.eq_nil_of_length_eq_zero hl.symm;subst hle;have hq:∀ w,(binOp .eql 63 (.slice none 0 c) (.slice none 0 0)).run Tryz.prog w=.ok (.bool true) w:=pgs_nil none 0 c;clear hr hn hl;go_enter Tryz.func130,Tryz.ntmps130;go_wp2_with fail;go_ret;exact ⟨none,0,rfl,World.ownsRow_nil _ _ _ _,Fr.refl _ _ _⟩
 · have ho:=powns_empty w;have hf:=(Fr.refl w.heap.size [] w).alloc (Nat.le_refl _) (.cells #[] 199);have hr1:=hr.fr hf hB (by simp);have hs:w.heap.size < (w.alloc (.cells #[] 199)).heap.size:=(by simp);have hq:∀ w,(binOp .eql 63 (.slice (some ad) n c) (.slice none 0 0)).run Tryz.prog w=.ok (.bool false) w:=pgs_nil (some ad) n c;clear hr hl;go_enter Tryz.func130,Tryz.ntmps130;go_wp2_with (at_builtin;refine wpList_app _ rfl (.tmp 5) (.tmp 6) pgTy rfl w.heap.size (.slice (some ⟨w.heap.size,0,none⟩) 0 0) 0 [] rfl ho B _ n _ (cellsI l) rfl hr1 insC_one (by omega) (by omega) (by simp) ?_;intro A2 c2 w2 hown2 hg2 hat2);go_ret;rw [Nat.zero_add] at hown2;exact ⟨A2,c2,rfl,by simpa using hown2,hf.grown hg2 (by simp) (fun k hk=>.inl (by simp [Value.ownBlock] at hk;omega))⟩
end Go.Proofs.YtgblfflikgnfpaaGreat
namespace Go.Proofs.YtgblfflikgnfpaaGreat
open Go.RowKit Go.Fb
set_option maxRecDepth 100000
set_option maxHeartbeats 16000000
set_option linter.unusedVariables false
set_option linter.unnecessarySimpa false
abbrev Pk:Type:=Int × Int
abbrev CV:Type:=Int × Int × Int × Int
abbrev pkV (p:Pk):Value:=.agg #[.int .i64 p.1,.int .i64 p.2]
abbrev cvV (c:CV):Value:=.agg #[.int .i64 c.1,.int .i64 c.2.1,.int .i64 c.2.2.1,.int .i64 c.2.2.2]
def c0:CV:=(0,0,0,0)
def updT (T:Pk->CV) (p:Pk) (c:CV):Pk->CV:=fun q=>if q=p then c else T q
theorem pk_beq (x y:Pk):(x.1 == y.1 && x.2 == y.2)=decide (x=y):=by
 obtain ⟨a,b⟩:=x;obtain ⟨a',b'⟩:=y;rw [Bool.eq_iff_iff];simp
theorem pkV_inj {p q:Pk} (h:pkV p=pkV q):p=q:=by
 obtain ⟨a,b⟩:=p;obtain ⟨a',b'⟩:=q;unfold pkV at h;injection h with h
 simp only [Array.mk.injEq,List.cons.injEq,Value.int.injEq,true_and,and_true] at h;obtain ⟨rfl,rfl⟩:=h;rfl
theorem pk_eq (x y:Pk) (w:World):(Op.equal 232 (pkV x) (pkV y)).run Tryz.prog w=.ok (decide (x=y)) w:=by
 have h:(Op.equalIn 10000 232 (pkV x) (pkV y)).run Tryz.prog w=.ok (x.1 == y.1 && x.2 == y.2) w:=by
  rw [run_equalIn_struct w 9999 232 _ _ (by kernel_rfl) (by kernel_rfl)];simp only [Program.fieldsOf,Tryz.underlying232]
  by_cases h1:x.1=y.1
  · by_cases h2:x.2=y.2 <;> simp [Op.eqFields,part,isAgg,run_underlying Tryz.underlying3,run_equalIn_int w 9998 3 .i64 .i64 _ _ Tryz.underlying3,h1,h2]
  · simp [Op.eqFields,part,isAgg,run_underlying Tryz.underlying3,run_equalIn_int w 9998 3 .i64 .i64 _ _ Tryz.underlying3,h1]
 rw [pk_beq] at h;simp [Op.equal,Op.maxDepth,h]
theorem pk_check (b:Bool) (x:Pk) (w:World):(Instr.checkKey b 10000 232 (pkV x)).run Tryz.prog w=.ok () w:=by
 have hi:∀ v:Int,(Instr.checkKey b 9999 3 (.int .i64 v)).run Tryz.prog w=.ok () w:=fun v=>MapKept.run_checkKey (k:=.int .i64 v) Tryz.underlying3 (by simp [MapKept.IsKey]) b 9998;rw [show (10000:Nat)=9999+1 from rfl];unfold Instr.checkKey;simp [run_underlying Tryz.underlying232,Result.andThen,part,isAgg,run_underlying Tryz.underlying3,hi]
theorem pk_stays (x:Pk) (w:World):(Instr.keyThatStays (pkV x) (pkV x)).run Tryz.prog w=.ok (pkV x) w:=by
 have h:Instr.sameBits 10000 (pkV x) (pkV x)=true:=by
  rw [show (10000:Nat)=9998+1+1 from rfl];simp [Instr.sameBits]
 unfold Instr.keyThatStays;rw [if_pos h];rfl
def posK (p:Pk):List Pk->Nat->Option Nat
 | [],_=>none
 | x :: l,i=>if p=x then some i else posK p l (i+1)
theorem posK_some {p:Pk}:∀ {K:List Pk} {i j:Nat},posK p K i=some j->i<=j/\K[j - i]?=some p
 | [],i,j,h=>by simp [posK] at h
 | x :: l,i,j,h=>by
  unfold posK at h
  split at h
  ·
   rename_i hp;injection h with h
   subst h;subst hp;exact ⟨Nat.le_refl _,by simp⟩
  · obtain ⟨a,b⟩:=posK_some h;refine ⟨by omega,?_⟩;rw [show j - i=(j - (i+1))+1 by omega,List.getElem?_cons_succ];exact b
theorem posK_none {p:Pk}:∀ {K:List Pk} {i:Nat},posK p K i=none->p ∉ K
 | [],i,_=>by simp
 | x :: l,i,h=>by
  unfold posK at h
  split at h
  · cases h
  · rename_i hp;have:=posK_none h;simp [hp,this]
structure Ents (es:Array MapEntry) (clock:Nat) (K:List Pk) (T:Pk->CV):Prop where
 old:∀ x ∈ es.toList,x.born < clock
 born:(es.toList.map (·.born)).Nodup
 nd:K.Nodup
 mem:∀ p,p ∈ K ↔ T p ≠ c0
 kv:es.toList.map (fun e=>(e.key,e.val))=K.map (fun p=>(pkV p,cvV (T p)))
theorem pk_asking (T:Pk->CV) (x:Pk) (w:World):∀ (es:List MapEntry) (K:List Pk) (i:Nat),es.map (fun e=>(e.key,e.val))=K.map (fun p=>(pkV p,cvV (T p)))->(Instr.findAsking 232 (pkV x) es i).run Tryz.prog w=.ok ((posK x K i).map fun j=>(j,cvV (T x))) w
 | [],[],i,_=>by simp [Instr.findAsking,posK]
 | [],_ :: _,_,h=>by simp at h
 | _ :: _,[],_,h=>by simp at h
 | e :: es,y :: l,i,h=>by
  simp only [List.map_cons,List.cons.injEq,Prod.mk.injEq] at h;obtain ⟨⟨h1,h2⟩,h3⟩:=h;have ih:=pk_asking T x w es l (i+1) h3;have he:=pk_eq x y w;rw [<- h1] at he;unfold posK
  by_cases hxy:x=y
  · rw [decide_eq_true hxy] at he;rw [if_pos hxy];subst hxy;simp [Instr.findAsking,he,Result.andThen,h2]
  · rw [decide_eq_false hxy] at he;rw [if_neg hxy];simp only [Instr.findAsking,Sem.run_bind,he,Result.andThen_ok,Bool.false_eq_true,if_false];exact ih
theorem pk_find {w:World} {T:Pk->CV} {K:List Pk} (x:Pk) (es:Array MapEntry) (h:es.toList.map (fun e=>(e.key,e.val))=K.map (fun p=>(pkV p,cvV (T p)))) :
  (Instr.findKey 232 (pkV x) es.toList).run Tryz.prog w=.ok ((posK x K 0).map fun j=>(j,cvV (T x))) w:=by
 have ha:=pk_asking T x w es.toList K 0 h
 cases hl:es.toList with
 | nil =>
  rw [hl] at h;have:K=[]:=(by simpa using h.symm);subst this;simp [Instr.findKey,run_underlying Tryz.underlying232,Result.andThen,Instr.findNow,posK]
 | cons e es' =>
  rw [hl] at ha h
  cases K with
  | nil=>simp at h
  | cons y l' =>
   have hk:e.key=pkV y:=(by simp at h;exact h.1.1)
   have hn:Instr.findNow (Tryz.prog.underlying 232 |>.getD .bool) (pkV x) (e :: es') 0=none:=by
    rw [Tryz.underlying232];simp [Instr.findNow,hk,Instr.sameNow]
   have hrun:(Instr.findKey 232 (pkV x) (e :: es')).run Tryz.prog w=(Instr.findAsking 232 (pkV x) (e :: es') 0).run Tryz.prog w:=by
    rw [Tryz.underlying232] at hn;simp only [Option.getD_some] at hn;simp [Instr.findKey,run_underlying Tryz.underlying232,Result.andThen,hn]
   rw [hrun];exact ha
def KMap (w:World) (r:Nat) (T:Pk->CV):Prop:=∃ K es clock,w.heap[r]?=some (.map es clock)/\Ents es clock K T
def setM (w:World) (r:Nat) (o:Obj):World:={ w with heap:=w.heap.setIfInBounds r o }
theorem setM_fr (w:World) (r:Nat) (o:Obj):Fr w.heap.size [r] w (setM w r o) :=
 ⟨rfl, rfl, rfl, by simp [setM], fun k _ hk => by
  have:r ≠ k:=fun e=>hk (by simp [e])
  simp [setM,this]⟩
theorem setM_new {w:World} {r:Nat} (h:r < w.heap.size) (o:Obj):(setM w r o).heap[r]?=some o:=by simp [setM,h]
theorem setM_size (w:World) (r:Nat) (o:Obj):(setM w r o).heap.size=w.heap.size:=by simp [setM]
section
variable {w w':World} {r:Nat} {T:Pk->CV}
theorem KMap.lt (h:KMap w r T):r < w.heap.size:=by
 obtain ⟨K,es,clock,hb,_⟩:=h
 rcases Nat.lt_or_ge r w.heap.size with h | h
 · exact h
 · rw [Array.getElem?_eq_none h] at hb;cases hb
theorem KMap.new (w:World):KMap (w.alloc (.map #[] 0)) w.heap.size (fun _=>c0):=⟨[],#[],0,heap_alloc_new w _,by simp,by simp,List.nodup_nil,by simp,rfl⟩
theorem KMap.fr {B:Nat} {L:List Nat} (h:KMap w r T) (hf:Fr B L w w') (h1:r < B) (h2:r ∉ L):KMap w' r T:=by
 obtain ⟨K,es,clock,hb,he⟩:=h;exact ⟨K,es,clock,(hf.block r h1 h2).trans hb,he⟩
theorem KMap.ne {g t:Nat} {cs:Array Value} (h:KMap w r T) (hb:Blk w g t cs):r ≠ g:=by
 rintro rfl;obtain ⟨K,es,clock,h1,_⟩:=h;unfold Blk at hb;rw [h1] at hb
 cases hb
theorem KMap.store (h:KMap w r T) (x:Pk) (c:CV) (hc0:c ≠ c0) :
  ∃ w',(Instr.mapUpdate 210 (.map (some r)) (pkV x) (cvV c)).run Tryz.prog w=.ok () w'/\KMap w' r (updT T x c)/\Fr w.heap.size [r] w w'/\w'.heap.size=w.heap.size:=by
 have hlt:=h.lt;obtain ⟨K,es,clock,hb,he⟩:=h;have hc:=fun b=>pk_check b x w;have hf:=pk_find (w:=w) x es he.kv;have hlen:es.toList.length=K.length:=(by have:=congrArg List.length he.kv;simpa using this)
 cases hm:posK x K 0 with
 | none =>
  rw [hm] at hf;have hx:=posK_none hm;refine ⟨setM w r (.map (es.push { key:=pkV x,val:=cvV c,born:=clock }) (clock+1)),?_,⟨K ++ [x],_,_,setM_new hlt _,?_,?_,?_,?_,?_⟩,setM_fr _ _ _,setM_size _ _ _⟩
  · simp [Instr.mapUpdate,run_underlying Tryz.underlying210,MapKept.run_getObj_map hb,hc,hf,MapKept.run_setObj_map _ hb,Result.andThen,setM]
  ·
   intro y hy;rw [Array.toList_push,List.mem_append,List.mem_singleton] at hy
   rcases hy with hy | rfl
   · have:=he.old y hy;omega
   · show clock < clock+1;omega
  · rw [Array.toList_push,List.map_append];refine List.nodup_append.2 ⟨he.born,by simp,fun a ha c hc e1 => ?_⟩;simp at hc;obtain ⟨y,hy,rfl⟩:=List.mem_map.1 ha;have:=he.old y hy;omega
  · rw [List.nodup_append];exact ⟨he.nd,by simp,fun a ha b hb=>by rw [List.mem_singleton] at hb;rw [hb];exact fun e=>hx (e ▸ ha)⟩
  ·
   intro p;unfold updT;rw [List.mem_append,List.mem_singleton,he.mem]
   by_cases e:p=x
   · rw [if_pos e];simp [e,hc0]
   · rw [if_neg e];simp [e]
  ·
   rw [Array.toList_push,List.map_append,List.map_append,he.kv]
   congr 1
   · refine List.map_congr_left fun p hp => ?_;unfold updT;have hne:p ≠ x:=fun e=>hx (e ▸ hp);rw [if_neg hne]
   · simp [updT]
 | some y =>
  rw [hm] at hf;obtain ⟨_,g2⟩:=posK_some hm;rw [Nat.sub_zero] at g2;have hyl:y < K.length:=(List.getElem?_eq_some_iff.1 g2).1;obtain ⟨e0,he0⟩:∃ e0,es.toList[y]?=some e0:=⟨_,List.getElem?_eq_getElem (by omega)⟩
  have hkv:(e0.key,e0.val)=(pkV x,cvV (T x)):=by
   have a:(es.toList.map (fun e=>(e.key,e.val)))[y]?=some (e0.key,e0.val):=(by rw [List.getElem?_map,he0];rfl);rw [he.kv,List.getElem?_map,g2] at a;simpa using a.symm
  have hk0:e0.key=pkV x:=congrArg Prod.fst hkv;have hj:es[y]?=some e0:=(by simpa using he0)
  have hml:(es.modify y (fun e=>{ e with key:=pkV x,val:=cvV c })).toList=es.toList.set y { e0 with key:=pkV x,val:=cvV c }:=by
   rw [Array.toList_modify,Go.ChangeMaps.modify_eq_set _ _ _ _ he0]
  refine ⟨setM w r (.map (es.modify y (fun e=>{ e with key:=pkV x,val:=cvV c })) clock),?_,⟨K,_,_,setM_new hlt _,?_,?_,he.nd,?_,?_⟩,setM_fr _ _ _,setM_size _ _ _⟩
  · simp [Instr.mapUpdate,run_underlying Tryz.underlying210,MapKept.run_getObj_map hb,hc,hf,hj,hk0,pk_stays,MapKept.run_setObj_map _ hb,Result.andThen,setM]
  ·
   intro z hz;rw [hml] at hz
   rcases List.mem_or_eq_of_mem_set hz with hz | rfl
   · exact he.old z hz
   · exact he.old e0 (List.mem_of_getElem? he0)
  ·
   rw [hml,List.map_set]
   show (List.set _ y e0.born).Nodup
   rw [Go.WideElems.set_self _ _ _ (by rw [List.getElem?_map,he0];rfl)];exact he.born
  ·
   intro p;unfold updT;rw [he.mem]
   by_cases e:p=x
   · rw [if_pos e];have:=(he.mem x).1 (List.mem_of_getElem? g2);simp [e,hc0,this]
   · rw [if_neg e]
  ·
   rw [hml,List.map_set,he.kv];refine List.ext_getElem? fun j => ?_;rw [List.getElem?_set,List.getElem?_map,List.getElem?_map]
   by_cases hjy:y=j
   · subst hjy;rw [if_pos rfl,List.length_map,if_pos hyl,g2];simp [updT]
   ·
    rw [if_neg hjy]
    cases hp:K[j]? with
    | none=>rfl
    | some p =>
     have:p ≠ x:=fun e=>by
      subst e;obtain ⟨i1,e1⟩:=List.getElem?_eq_some_iff.1 g2;obtain ⟨i2,e2⟩:=List.getElem?_eq_some_iff.1 hp;exact hjy ((List.getElem_inj he.nd).1 (e1.trans e2.symm))
     simp [updT,this]
theorem mem_eraseIdx_nd {K:List Pk} (hn:K.Nodup) {j:Nat} {x:Pk} (hj:K[j]?=some x) (p:Pk):p ∈ K.eraseIdx j ↔ p ∈ K/\p ≠ x:=by
 rw [List.mem_eraseIdx_iff_getElem?];obtain ⟨i2,e2⟩:=List.getElem?_eq_some_iff.1 hj;constructor
 · rintro ⟨i,hi,h⟩;refine ⟨List.mem_of_getElem? h,fun e => ?_⟩;subst e;obtain ⟨i1,e1⟩:=List.getElem?_eq_some_iff.1 h;exact hi ((List.getElem_inj hn).1 (e1.trans e2.symm))
 · rintro ⟨h,hne⟩;obtain ⟨i,hi⟩:=List.mem_iff_getElem?.1 h;exact ⟨i,fun e=>by subst e;rw [hj] at hi;injection hi with hi;exact hne hi.symm,hi⟩
theorem KMap.del (h:KMap w r T) (x:Pk) :
  ∃ w',(∀ ty,(Builtin.delete_ #[210,232] ty #[.map (some r),pkV x]).run Tryz.prog w=.ok (.tuple #[]) w')/\KMap w' r (updT T x c0)/\Fr w.heap.size [r] w w'/\w'.heap.size=w.heap.size:=by
 have hlt:=h.lt;obtain ⟨K,es,clock,hb,he⟩:=h;have hc:=fun b=>pk_check b x w;have hf:=pk_find (w:=w) x es he.kv;have hlen:es.toList.length=K.length:=(by have:=congrArg List.length he.kv;simpa using this)
 cases hm:posK x K 0 with
 | none =>
  rw [hm] at hf;have hx:=posK_none hm;have hT:T x=c0:=Decidable.not_not.1 fun hn=>hx ((he.mem x).2 hn)
  have hTe:updT T x c0=T:=by
   funext q
   unfold updT
   by_cases e:q=x
   · rw [if_pos e,e,hT]
   · rw [if_neg e]
  refine ⟨setM w r (.map es clock),fun ty => ?_,⟨K,_,_,setM_new hlt _,by rw [hTe];exact he⟩,setM_fr _ _ _,setM_size _ _ _⟩;simp [Builtin.delete_,run_underlying Tryz.underlying210,MapKept.run_getObj_map hb,hc,hf,MapKept.run_setObj_map _ hb,Result.andThen,setM]
 | some y =>
  rw [hm] at hf;obtain ⟨_,g2⟩:=posK_some hm;rw [Nat.sub_zero] at g2;have hyl:y < K.length:=(List.getElem?_eq_some_iff.1 g2).1;have hyE:y < es.size:=(by rw [<- Array.length_toList];omega)
  have hml:(es.eraseIdxIfInBounds y).toList=es.toList.eraseIdx y:=by
   unfold Array.eraseIdxIfInBounds;rw [dif_pos hyE,Array.toList_eraseIdx]
  refine ⟨setM w r (.map (es.eraseIdxIfInBounds y) clock),fun ty => ?_,⟨K.eraseIdx y,_,_,setM_new hlt _,?_,?_,?_,?_,?_⟩,setM_fr _ _ _,setM_size _ _ _⟩
  · simp [Builtin.delete_,run_underlying Tryz.underlying210,MapKept.run_getObj_map hb,hc,hf,MapKept.run_setObj_map _ hb,Result.andThen,setM]
  · intro z hz;rw [hml] at hz;exact he.old z ((List.eraseIdx_sublist _ _).subset hz)
  · rw [hml];exact he.born.sublist ((List.eraseIdx_sublist _ _).map _)
  · exact he.nd.sublist (List.eraseIdx_sublist _ _)
  ·
   intro p;rw [mem_eraseIdx_nd he.nd g2,he.mem];unfold updT
   by_cases e:p=x
   · rw [if_pos e];simp [e]
   · rw [if_neg e];simp [e]
  ·
   have hme:∀ {α β:Type} (f:α->β) (l:List α) (i:Nat),(l.eraseIdx i).map f=(l.map f).eraseIdx i:=fun f l i=>by
    rw [List.eraseIdx_eq_take_drop_succ,List.eraseIdx_eq_take_drop_succ,List.map_append,List.map_take,List.map_drop]
   rw [hml,hme,he.kv,<- hme];refine List.map_congr_left fun p hp => ?_;have:=((mem_eraseIdx_nd he.nd g2 p).1 hp).2;unfold updT;rw [if_neg this]
end
end Go.Proofs.YtgblfflikgnfpaaGreat
namespace Go.Proofs.YtgblfflikgnfpaaGreat
open Go.RowKit Go.Fb
set_option maxRecDepth 100000
set_option maxHeartbeats 16000000
set_option linter.unusedVariables false
set_option linter.unnecessarySimpa false

theorem valinfo:(Tryz.prog.info? 30).map (fun i=>(i.zero,i.size,i.bytes))=some (some (.agg #[.int .i64 0,.int .i64 0]),2,16):=by kernel_rfl
def entC (x:Nat->Int):List Value:=[.int .i64 (x 0),.int .i64 (x 1),.int .i64 (x 2),.int .i64 (x 3),.int .i64 (x 4),.int .i64 (x 5)]
def cellsE (l:List (Nat->Int)):List Value:=l.flatMap entC
theorem entC_get (x:Nat->Int):∀ j,j < 6->(entC x)[j]?=some (.int .i64 (x j))
 | 0,_=>rfl
 | 1,_=>rfl
 | 2,_=>rfl
 | 3,_=>rfl
 | 4,_=>rfl
 | 5,_=>rfl
 | j+6,h=>by omega
theorem cellsE_get:∀ {l:List (Nat->Int)} {k:Nat} {x:Nat->Int},l[k]?=some x -> ∀ j,j < 6->(cellsE l)[k * 6+j]?=some (.int .i64 (x j))
 | [],k,x,h,_,_=>by simp at h
 | y :: l,0,x,h,j,hj=>by
  simp at h;subst h;rw [cellsE,List.flatMap_cons,Nat.zero_mul,Nat.zero_add,List.getElem?_append_left (by simp [entC];omega)];exact entC_get y j hj
 | y :: l,k+1,x,h,j,hj=>by
  rw [cellsE,List.flatMap_cons,List.getElem?_append_right (by simp [entC];omega)];have ih:=cellsE_get (l:=l) (k:=k) (x:=x) (by simpa using h) j hj;have e:(k+1) * 6+j - (entC y).length=k * 6+j:=(by simp [entC];omega);rw [e];exact ih
theorem reads_ent {w:World} {B:Nat} {A:Option Addr} {l:List (Nat->Int)} (h:Reads w B 6 A l.length (cellsE l)) {k:Nat} {x:Nat->Int} (hx:l[k]?=some x) :
  ∃ b off,A=some ⟨b,off,none⟩/\b < B /\ ∀ j,j < 6->w.cell? ⟨b,off+(k * 6+j),none⟩=some (.int .i64 (x j)):=by
 have hk:k < l.length:=by
  rcases Nat.lt_or_ge k l.length with h | h
  · exact h
  · rw [List.getElem?_eq_none h] at hx;cases hx
 obtain ⟨b,off,e,hb,hc⟩:=h.2 (by omega);exact ⟨b,off,e,hb,fun j hj=>hc _ _ (cellsE_get hx j hj)⟩
theorem mul64_any (n:Nat) (hn:n<=24) (w:World):Calls Tryz.prog 213 #[.int .u64 1,.int .u64 n] w fun e w'=>e=.returned (.tuple #[.int .u64 0,.int .u64 n])/\w=w':=by
 have h:n=0 \/ n=1 \/ n=2 \/ n=3 \/ n=4 \/ n=5 \/ n=6 \/ n=7 \/ n=8 \/ n=9 \/ n=10 \/ n=11 \/ n=12 \/ n=13 \/ n=14 \/ n=15 \/ n=16 \/ n=17 \/ n=18 \/ n=19 \/ n=20 \/ n=21 \/ n=22 \/ n=23 \/ n=24:=(by omega)
 rcases h with rfl | rfl | rfl | rfl | rfl | rfl | rfl | rfl | rfl | rfl | rfl | rfl | rfl | rfl | rfl | rfl | rfl | rfl | rfl | rfl | rfl | rfl | rfl | rfl | rfl
 all_goals
  go_enter Tryz.func213,Tryz.ntmps213;go_wp2_with fail;go_ret2;exact ⟨rfl,rfl⟩
theorem mul_any (n:Nat) (hn:n<=24) (w:World):Calls Tryz.prog 200 #[.int .u64 1,.int .u64 n] w fun e w'=>e=.returned (.tuple #[.int .u64 0,.int .u64 n])/\w=w':=by
 have H:=zh (mul64_any n hn);go_enter Tryz.func200,Tryz.ntmps200;go_wp2_with fail;refine (H.out _).mono ?_;rintro e w' ⟨rfl,rfl⟩;go_wp2_with fail;go_ret2;exact ⟨rfl,rfl⟩
def CapN (M:List Ndm):Prop:=∀ m ∈ M,∀ A n c,m.2.1=.slice A n c->n<=c
end Go.Proofs.YtgblfflikgnfpaaGreat
