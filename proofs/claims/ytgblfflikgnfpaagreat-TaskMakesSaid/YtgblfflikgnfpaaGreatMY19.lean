/- Texts merged into one, for the number of files a claim may have: TcP, TcA, TcW, TaskMakes. -/
import Derived.Test.YtgblfflikgnfpaaGreatTk
import Derived.Test.YtgblfflikgnfpaaGreatMY8
import Derived.Test.YtgblfflikgnfpaaGreatMY12
import Derived.Test.YtgblfflikgnfpaaGreatMY13
import Derived.Test.YtgblfflikgnfpaaGreatMY14
import Derived.Test.YtgblfflikgnfpaaGreatMY17
import Derived.Test.YtgblfflikgnfpaaGreatMY18
namespace Go.Proofs.YtgblfflikgnfpaaGreat
open Go.RowKit Go.Fb
set_option maxRecDepth 100000
set_option maxHeartbeats 16000000
set_option linter.unusedVariables false
def tkS (n:Int) (ls:List ByteArray) (L:List (Nat->Int)) (b:Bool) (ep:Int) (p:Bool):TaskS :=
 ⟨pasS 1,0,tabL [],[b],b,ep,p,if b then 1 else 0,0,[],[(0,3)],[⟨3,1,ls,n⟩],[],[],L,Itm.zero,false,[]⟩
def rgS (n m:Int) (ls ws:List ByteArray) (L:List (Nat->Int)) (b:Bool) (ep:Int) (p:Bool) (left:List Itm) (acks:List AckS):RigS :=
 ⟨tkS n ls L b ep p,[⟨⟨3,1,ws,m,0⟩,0,left⟩],[],acks,0⟩
theorem task0_pass:task0 (passL 1) (pasS 1) 0 1 []=tkS 0 [] [] false 0 false:=by
 have h1:recvL (passL 1) (pasS 1) 0=[(0,3)]:=by
  unfold recvL;rw [show srt (pasS 1).fr=[0] by simp [srt,pasS]];rfl
 have h2:childN (passL 1) 1=[]:=by
  unfold childN;rw [show kidsN (passL 1) 1 []=[] by rfl];simp [srt]
 have h3:sendL (passL 1) 1 0=[]:=(by unfold sendL;rw [h2];rfl);have h4:kidsL (passL 1) 1=[]:=(by unfold kidsL;rw [h2];rfl);unfold task0 tkS;rw [h1,show (pasS 1).id=1 from rfl,h3,h4];rfl
theorem feeds_pass:feedsN (passL 1) (pasS 1) 0 8=[⟨⟨3,1,[],0,0⟩,0,[]⟩]:=by rfl
theorem drains_pass:drainsL (passL 1) (pasS 1) 0=[]:=by rfl
theorem put_size {i:Itm} (h:i.put.isSome=true):(putS i.put).size ≠ 0/\(putS i.put).size<=1000:=by
 unfold Itm.put putI at *
 split at h <;> split at h <;> simp_all [putS,strOfNums_size,be_length]
theorem put_get {i:Itm} (h:i.put.isSome=true):goodI (putS i.put)=true/\getI (putS i.put)=i.back:=by
 obtain ⟨l,hl⟩:=Option.isSome_iff_exists.1 h;obtain ⟨h1,h2⟩:=put_back hl;rw [hl];exact ⟨h2,by unfold getI;rw [show putS (some l)=strOfNums l from rfl,h2];exact h1⟩
def lnS (i:Itm):Nat->Int:=fun j=>if j=0 then 1 else if j=1 then 0 else if j=2 then i.k else if j=3 then i.re else i.im
theorem sink_take {n:Int} {s:ByteArray} (hs:s.size ≠ 0):takeI ⟨3,0,1,n+1,0,s⟩ ⟨3,1,[],n⟩=(⟨3,1,[s],n⟩,[⟨3,1,1,0,n,emptyB⟩]):=by
 simp [takeI,isP,hs,ackP]
theorem ack_old {n:Int} {s:ByteArray}:ackO ⟨3,1,1,0,n,emptyB⟩ ⟨3,1,[s],n+1,0⟩=⟨3,1,[s],n+1,0⟩:=by
 simp [ackO,isP]
theorem ack_new {n:Int} {s:ByteArray}:ackO ⟨3,1,1,0,n+1,emptyB⟩ ⟨3,1,[s],n+1,0⟩=⟨3,1,[],n+1,0⟩:=by
 have:(n+1 - n).toNat=1:=(by omega);simp [ackO,isP,this]
theorem sent_one {n:Int} {L:List (Nat->Int)} {b:Bool} {ep:Int} {p:Bool} {s:ByteArray} {rest left:List Itm} {acks:List AckS} (hs:s.size ≠ 0) :
  (let R:=rgS n n [] [] L b ep p left acks;({ R with t:=R.t.take ⟨3,0,1,n+1,0,s⟩,fs:=R.fs.set 0 ⟨ackAll (R.t.tells ⟨3,0,1,n+1,0,s⟩ R.t.ins.length) ⟨3,1,[s],n+1,0⟩,0,rest⟩ }:RigS))=rgS n (n+1) [s] [s] L b ep p rest acks:=by
 simp [rgS,tkS,TaskS.take,TaskS.takes,TaskS.acks,TaskS.tells,sink_take hs,ackAll,ack_old]
theorem rec_state {n:Int} {L:List (Nat->Int)} {s:ByteArray} {i:Itm} :
  ({ ((tkS n [s] L false 0 false).popped 0).line 0 i with out:=[] }:TaskS)=tkS (n+1) [] (L ++ [lnS i]) false 0 false/\(((tkS n [s] L false 0 false).popped 0).line 0 i).out=[⟨3,1,1,0,n+1,emptyB⟩]:=by
 refine ⟨?_,rfl⟩;simp [TaskS.popped,TaskS.line,tkS,popI]
 funext j
 simp [lineF,lnS,pasS]
theorem bar_state {n:Int} {L:List (Nat->Int)} {s:ByteArray} {i:Itm} (hb:i.b=true) :
  ({ ((tkS n [s] L false 0 false).popped 0).block 0 i with out:=[] }:TaskS)=tkS (n+1) [] L true i.ep i.p/\(((tkS n [s] L false 0 false).popped 0).block 0 i).out=[⟨3,1,1,0,n+1,emptyB⟩]:=by
 refine ⟨?_,rfl⟩;simp [TaskS.popped,TaskS.block,tkS,popI]
theorem met_state {n:Int} {L:List (Nat->Int)} {ep:Int} {p:Bool} :
  (((tkS n [] L true ep p).puts (tkS n [] L true ep p).bar 0).clear)=tkS n [] L false 0 false/\(tkS n [] L true ep p).ack (tkS n [] L true ep p).bar 0=⟨1,0,ep,[],L,0⟩:=by
 refine ⟨?_,?_⟩
 · simp [TaskS.puts,TaskS.clear,tkS]
 · simp [TaskS.ack,TaskS.bar,tkS,pasS]
theorem tk_ok {n:Int} {ls:List ByteArray} {L:List (Nat->Int)} {b:Bool} {ep:Int} {p:Bool} (h1:ls.length<=6) (h2:0<=n/\n<=1000000) (h3:∀ x ∈ ls,x.size<=1000) (h4:L.length<=100000):TaskOk (tkS n ls L b ep p):=by
 refine ⟨rfl,rfl,by simp [tkS],by simp [tkS],by simp only [tkS];split <;> omega,by simp only [tkS];split <;> omega,tabL_ok [] _ TOk.zero rfl,h4,by simp [tkS],?_,by simp [tkS]⟩;intro s hs;simp [tkS] at hs;subst hs;exact ⟨h1,⟨by show _<=n;omega,by show n<=_;omega⟩,h3⟩
end Go.Proofs.YtgblfflikgnfpaaGreat
namespace Go.Proofs.YtgblfflikgnfpaaGreat
open Go.RowKit Go.Fb
set_option maxRecDepth 100000
set_option maxHeartbeats 16000000
set_option linter.unusedVariables false
section
variable {col col':Nat->Nat} {w w':World} {g:Nat} {R:RigS} {Y:RX}
theorem RigM.left (h:RigM col w g R Y) {j gj n:Nat} {F:Feed} {l:List Itm} (hg:Y.gf[j]?=some gj) (hF:R.fs[j]?=some F) (hn:n=l.length) (k:Cg (· = 201+4 * j) col w col' w') {A:Option Addr} {c:Nat} (hr:CR col' (201+4 * j) w' 46 6 (.slice A n c) n (itmsC l)) :
  RigM col' (w'.setCell ⟨gj,2,none⟩ (.slice A n c)) g { R with fs:=R.fs.set j ⟨F.o,F.fr,l⟩ } Y/\CR col' (201+4 * j) (w'.setCell ⟨gj,2,none⟩ (.slice A n c)) 46 6 (.slice A n c) n (itmsC l)/\Cg (fun q=>q=201+4 * j \/ q=200+4 * j) col w col' (w'.setCell ⟨gj,2,none⟩ (.slice A n c)):=by
 subst hn;obtain ⟨go,A0,c0,h1,h2,h3⟩:=h.fm j gj F hg hF;have hs:=h1.cg k (by omega);have K:Cg (fun q=>q=201+4 * j \/ q=200+4 * j) col w col' (w'.setCell ⟨gj,2,none⟩ (.slice A l.length c)):=(k.mono (fun _ h=>.inl h)).set (.inr hs.k) _;have k1:Cg (· = 200+4 * j) col' w' col' (w'.setCell ⟨gj,2,none⟩ (.slice A l.length c)):=(Cg.refl _ _ _).set hs.k _;refine ⟨h.setF K (fun q hq=>by omega) hg ⟨go,A,c,⟨by simpa using hs.b.set_ 2 (.slice A l.length c),hs.k⟩,hr.cg k1 (by omega),h3.cg K (by omega)⟩,hr.cg k1 (by omega),K⟩
theorem ssend_any {n:Int} {L:List (Nat->Int)} {b:Bool} {ep:Int} {p:Bool} {i:Itm} {rest:List Itm} {acks:List AckS} (h:RigM col w g (rgS n n [] [] L b ep p (i :: rest) acks) Y) (hn:0<=n/\n<=1000000) (hl:rest.length<=1000) (hs:i.put.isSome=true) :
  Calls Tryz.prog 12 #[.pointer (some ⟨g,0,none⟩),.int .i64 0] w (SentOut col g (rgS n (n+1) [putS i.put] [putS i.put] L b ep p rest acks) Y w):=by
 have hz:=put_size hs
 have:=rsend_any h 0 ⟨⟨3,1,[],n,0⟩,0,i :: rest⟩ i rest rfl rfl (by show 0 < 6;omega) hn.1 (by show n<=_;omega) (by show rest.length+1<=_;omega) hz.1
  (by
   intro s hs;simp [rgS,tkS] at hs;subst hs
   exact ⟨Nat.zero_le _,by show _<=n;omega,by show n<=_;omega⟩)
  (by simp [rgS,tkS]) ⟨3,0,1,n+1,0,putS i.put⟩ rfl ⟨3,1,[putS i.put],n+1,0⟩ rfl
 rw [sent_one hz.1] at this;exact this
theorem free_tk (n:Int) (ls:List ByteArray) (L:List (Nat->Int)) (b:Bool) (ep:Int) (p:Bool):freeAt (tkS n ls L b ep p).bs (hasL (tkS n ls L b ep p)) (tkS n ls L b ep p).last 0=(!b && decide (0 < ls.length)):=by
 simp [freeAt,pickC,offB,hasL,tkS]
def SWork (col:Nat->Nat) (g:Nat) (R':RigS) (did:Bool) (w:World) (e:Ending) (w':World):Prop :=
 ∃ Y' col',e=.returned (.bool did)/\RigM col' w' g R' Y'/\Cg RC col w col' w'
theorem swork_of {n m:Int} {ls ws:List ByteArray} {L:List (Nat->Int)} {b:Bool} {ep:Int} {p:Bool} {left:List Itm} {acks:List AckS} (h:RigM col w g (rgS n m ls ws L b ep p left acks) Y) (hm:0<=m/\m<=1000000) (hw:ws.length<=6) (ha:acks.length<=1000) (S2:TaskS) (did:Bool) (aks:List AckS) (hk:aks.length<=1) (hlen:S2.out.length<=10) (hp:∀ q ∈ S2.out,0<=q.ack/\q.ack<=1000001) (vs:Value) (R':RigS)
  (hR:R'=⟨{ S2 with out:=[] },[⟨⟨3,1,ws,m,0⟩,0,left⟩].map (ackF' S2.out),[],acks ++ aks,0⟩)
  (hwk:∀ W,Fr w.heap.size [] w W->Calls Tryz.prog 25 #[.pointer (some ⟨Y.gt,0,none⟩),vs] W (WorkOut col Y.gt S2 did (AcksM aks) W)) :
  Calls Tryz.prog 13 #[.pointer (some ⟨g,0,none⟩),vs] w (SWork col g R' did w):=by
 subst hR
 exact rwork_any h rfl (by show acks.length<=_;omega) S2 did aks (by omega) (by omega) (fun q hq=>⟨by have:=hp q hq;omega,by have:=hp q hq;omega⟩)
  (by
   intro F hF;simp [rgS] at hF;subst hF
   exact ⟨by show ws.length<=_;omega,by show _<=m;omega,by show m<=_;omega⟩) vs hwk
section
variable {n:Int} {L:List (Nat->Int)} {s:ByteArray} {left:List Itm} {acks:List AckS}
theorem swork_rec {i:Itm} (h:RigM col w g (rgS n (n+1) [putS i.put] [putS i.put] L false 0 false left acks) Y) (hn:0<=n/\n<=1000) (hL:L.length<=1000) (ha:acks.length<=1000) (hs:i.put.isSome=true) (hb:i.b=false) (vs:Value) :
  Calls Tryz.prog 13 #[.pointer (some ⟨g,0,none⟩),vs] w (SWork col g (rgS (n+1) (n+1) [] [] (L ++ [lnS i]) false 0 false left acks) true w):=by
 obtain ⟨hg1,hg2⟩:=put_get hs;have hz:=put_size hs;have hbk:i.back=⟨false,i.k,i.re,i.im,0,false⟩:=(by unfold Itm.back;rw [hb];rfl);obtain ⟨hr1,hr2⟩:=rec_state (n:=n) (L:=L) (s:=putS i.put) (i:=i.back);have hln:lnS i.back=lnS i:=(by rw [hbk];rfl);rw [hln] at hr1;refine swork_of h (by omega) (by simp) ha ((((tkS n [putS i.put] L false 0 false).popped 0).line 0 i.back)) true [] (by simp) (by rw [hr2];simp) (by rw [hr2];intro q hq;simp at hq;subst hq;exact ⟨by show 0<=n+1;omega,by show n+1<=_;omega⟩) vs _ ?_ (fun W hf => ?_)
 · rw [hr1,hr2];simp [rgS,ackF',ackAll,ack_new]
 ·
  have ht:=(h.t.fr0 hf:TaskM col W Y.gt (tkS n [putS i.put] L false 0 false) Y.X);have hok:TaskOk (tkS n [putS i.put] L false 0 false):=tk_ok (by simp) (by omega) (by simp;exact hz.2) (by omega);refine (workItem_any ht (by show (2:Int) ≠ 0;decide) vs (((tkS n [putS i.put] L false 0 false).popped 0).line 0 i.back) (flowItem_any (S:=tkS n [putS i.put] L false 0 false) ht hok rfl rfl 0 (by show 0 < 1;omega) (by rw [free_tk];rfl) (fun j hj=>absurd hj (by omega)) 0 (by simp [tkS,pickC]) (putS i.put) rfl hg1 _ (fun col' W' X' hm => ?_))).mono ?_
  · rw [hg2,hbk];refine (itemSink_any hm 0 _ rfl rfl (by simp [TaskS.popped,tkS]) (by show L.length<=_;omega)).mono ?_;rintro e w9 ⟨lA,lc,col9,rfl,h1,h2⟩;exact ⟨_,col9,rfl,h1,h2.mono (fun q hq=>by unfold FC;omega)⟩
  · rintro e w9 ⟨A,c,V,X',col9,rfl,h1,h2,h3,hV⟩;exact ⟨A,c,V,X',col9,rfl,h1,h2,h3,AcksM.none hV⟩
theorem swork_bar {i:Itm} (h:RigM col w g (rgS n (n+1) [putS i.put] [putS i.put] L false 0 false left acks) Y) (hn:0<=n/\n<=1000) (hL:L.length<=1000) (ha:acks.length<=1000) (hs:i.put.isSome=true) (hb:i.b=true) (vs:Value) :
  Calls Tryz.prog 13 #[.pointer (some ⟨g,0,none⟩),vs] w (SWork col g (rgS (n+1) (n+1) [] [] L true i.ep i.p left acks) true w):=by
 obtain ⟨hg1,hg2⟩:=put_get hs;have hz:=put_size hs;have hbk:i.back=⟨true,0,0,0,i.ep,i.p⟩:=(by unfold Itm.back;rw [hb];rfl);obtain ⟨hr1,hr2⟩:=bar_state (n:=n) (L:=L) (s:=putS i.put) (i:=i.back) (by rw [hbk]);refine swork_of h (by omega) (by simp) ha ((((tkS n [putS i.put] L false 0 false).popped 0).block 0 i.back)) true [] (by simp) (by rw [hr2];simp) (by rw [hr2];intro q hq;simp at hq;subst hq;exact ⟨by show 0<=n+1;omega,by show n+1<=_;omega⟩) vs _ ?_ (fun W hf => ?_)
 · rw [hr1,hr2,hbk];simp [rgS,ackF',ackAll,ack_new]
 ·
  have ht:=(h.t.fr0 hf:TaskM col W Y.gt (tkS n [putS i.put] L false 0 false) Y.X);have hok:TaskOk (tkS n [putS i.put] L false 0 false):=tk_ok (by simp) (by omega) (by simp;exact hz.2) (by omega);refine (workItem_any ht (by show (2:Int) ≠ 0;decide) vs (((tkS n [putS i.put] L false 0 false).popped 0).block 0 i.back) (flowItem_any (S:=tkS n [putS i.put] L false 0 false) ht hok rfl rfl 0 (by show 0 < 1;omega) (by rw [free_tk];rfl) (fun j hj=>absurd hj (by omega)) 0 (by simp [tkS,pickC]) (putS i.put) rfl hg1 _ (fun col' W' X' hm => ?_))).mono ?_
  · rw [hg2];refine (itemBar_any hm 0 _ (by rw [hbk]) ⟨rfl,.inl (by simp [TaskS.popped,tkS]),by simp [TaskS.popped,tkS],by simp [TaskS.popped,tkS]⟩).mono ?_;rintro e w9 ⟨col9,rfl,h1,h2⟩;exact ⟨_,col9,rfl,h1,h2.mono (fun q hq=>by unfold FC;omega)⟩
  · rintro e w9 ⟨A,c,V,X',col9,rfl,h1,h2,h3,hV⟩;exact ⟨A,c,V,X',col9,rfl,h1,h2,h3,AcksM.none hV⟩
theorem swork_met {ep:Int} {p:Bool} (h:RigM col w g (rgS n n [] [] L true ep p left acks) Y) (hn:0<=n/\n<=1000) (hL:L.length<=1000) (ha:acks.length<=1000) (vs:Value) :
  Calls Tryz.prog 13 #[.pointer (some ⟨g,0,none⟩),vs] w (SWork col g (rgS n n [] [] L false 0 false left (acks ++ [⟨1,0,ep,[],L,0⟩])) true w):=by
 obtain ⟨hr1,hr2⟩:=met_state (n:=n) (L:=L) (ep:=ep) (p:=p);refine swork_of h (by omega) (by simp) ha (tkS n [] L false 0 false) true [⟨1,0,ep,[],L,0⟩] (by simp) (by simp [tkS]) (by simp [tkS]) vs _ ?_ (fun W hf => ?_)
 · simp [rgS,tkS,ackF',ackAll]
 · have ht:=(h.t.fr0 hf:TaskM col W Y.gt (tkS n [] L true ep p) Y.X);have hok:TaskOk (tkS n [] L true ep p):=tk_ok (by simp) (by omega) (by simp) (by omega);have hfl:=flowMet_any (S:=tkS n [] L true ep p) ht hok rfl rfl;rw [show (tkS n [] L true ep p).om.length=0 from rfl,hr1,hr2] at hfl;refine (workMet_any ht (by show (2:Int) ≠ 0;decide) vs _ _ hfl).mono ?_;rintro e w9 ⟨A,c,V,X',col9,rfl,h1,h2,h3,hV⟩;exact ⟨A,c,V,X',col9,rfl,h1,h2,h3,AcksM.one hV⟩
theorem swork_none (h:RigM col w g (rgS n n [] [] L false 0 false left acks) Y) (hn:0<=n/\n<=1000) (hL:L.length<=1000) (ha:acks.length<=1000) (vs:Value) :
  Calls Tryz.prog 13 #[.pointer (some ⟨g,0,none⟩),vs] w (SWork col g (rgS n n [] [] L false 0 false left acks) false w):=by
 refine swork_of h (by omega) (by simp) ha (tkS n [] L false 0 false) false [] (by simp) (by simp [tkS]) (by simp [tkS]) vs _ ?_ (fun W hf => ?_)
 · simp [rgS,tkS,ackF',ackAll]
 ·
  have ht:=(h.t.fr0 hf:TaskM col W Y.gt (tkS n [] L false 0 false) Y.X);have hok:TaskOk (tkS n [] L false 0 false):=tk_ok (by simp) (by omega) (by simp) (by omega)
  have hfl := flowNone_any (S := tkS n [] L false 0 false) ht hok rfl rfl (fun k hk => by
   have hk0:k=0:=(by have:k < 1:=hk;omega);subst hk0;rw [free_tk]
   rfl)
  refine (workNone_any ht (by show (2:Int) ≠ 0;decide) vs hfl).mono ?_;rintro e w9 ⟨A,c,V,X',col9,rfl,h1,h2,h3,hV⟩;exact ⟨A,c,V,X',col9,rfl,h1,h2,h3,AcksM.none hV⟩
end
end
end Go.Proofs.YtgblfflikgnfpaaGreat
namespace Go.Proofs.YtgblfflikgnfpaaGreat
open Go.RowKit Go.Fb
set_option maxRecDepth 100000
set_option maxHeartbeats 16000000
set_option linter.unusedVariables false
theorem RigM.feed0 {col:Nat->Nat} {w:World} {g:Nat} {R:RigS} {Y:RX} (h:RigM col w g R Y) {F:Feed} (hF:R.fs=[F]):∃ gk b off go lA lc,Y.gf=[gk]/\CR col 201 w 46 6 (.slice lA F.left.length lc) F.left.length (itmsC F.left) /\
  (∀ col' W,Cg (fun q=>q=201 \/ q=200) col w col' W->W.cell? ⟨g,1,none⟩=some (.slice (some ⟨b,off,none⟩) 1 Y.fc)/\W.cell? ⟨b,off,none⟩=some (.pointer (some ⟨gk,0,none⟩))) /\
  ∀ col' W,Cg (· = 201) col w col' W->CB col' 200 W gk 37 #[.pointer (some ⟨go,0,none⟩),.int .i64 F.fr,.slice lA F.left.length lc]:=by
 have hl:=h.fl;rw [hF] at hl
 obtain ⟨gk,hgk⟩:∃ gk,Y.gf=[gk]:=by
  match hy:Y.gf,hl with
  | [a],_=>exact ⟨a,rfl⟩
 obtain ⟨b,off,hA,hb,_,hcell⟩:=Reads.elem ptrF_len h.fr.1 (by rw [hgk];rfl:Y.gf[0]?=some gk) (by omega);obtain ⟨go,lA,lc,hf1,hf2,hf3⟩:=h.fm 0 gk F (by rw [hgk];rfl) (by rw [hF];rfl);refine ⟨gk,b,off,go,lA,lc,hgk,hf2,fun col' W k=>⟨?_,?_⟩,fun col' W k=>hf1.cg k (by omega)⟩
 · have:=(h.st.cg k (by omega)).b.cell 1;replace this:W.cell? ⟨g,1,none⟩=some (.slice Y.fA R.fs.length Y.fc):=this;rw [hA,hF] at this;exact this
 ·
  have:=h.fr.cg k (by omega);rw [hgk,hA,hF] at this;obtain ⟨b',off',hA',_,hc⟩:=this.1.2 (by simp);injection hA' with hA'
  injection hA' with e1 e2
  subst e1 e2;exact hc 0 _ rfl
def iA1:Itm:=⟨false,3,0,0,0,false⟩
def iA2:Itm:=⟨true,0,0,0,1,false⟩
def stEx:Nat->RigS
 | 0=>rgS 0 0 [] [] [] false 0 false [iA1,iA2] []
 | 1=>rgS 1 1 [] [] [lnS iA1] false 0 false [iA2] []
 | 2=>rgS 2 2 [] [] [lnS iA1] true 1 false [] []
 | _=>rgS 2 2 [] [] [lnS iA1] false 0 false [] [⟨1,0,1,[],[lnS iA1],0⟩]
def mdEx:Nat->RigS
 | 0=>rgS 0 1 [putS iA1.put] [putS iA1.put] [] false 0 false [iA2] []
 | 1=>rgS 1 2 [putS iA2.put] [putS iA2.put] [lnS iA1] false 0 false [] []
 | k=>stEx k
def WkEx (k:Nat) (col:Nat->Nat) (g:Nat) (w:World) (e:Ending) (w':World):Prop:=∃ did,SWork col g (stEx (k+1)) did w e w'
section
variable {col:Nat->Nat} {w:World} {g:Nat} {Y:RX}
theorem iA_put:iA1.put.isSome=true/\iA2.put.isSome=true:=by constructor <;> rfl
theorem stEx_send {k:Nat} (hk:k < 2) (h:RigM col w g (stEx k) Y):Calls Tryz.prog 12 #[.pointer (some ⟨g,0,none⟩),.int .i64 0] w (SentOut col g (mdEx k) Y w):=by
 rcases (show k=0 \/ k=1 by omega) with rfl | rfl
 · exact ssend_any h (by omega) (by simp) iA_put.1
 · exact ssend_any h (by omega) (by simp) iA_put.2
theorem mdEx_work {k:Nat} (h:RigM col w g (mdEx k) Y) (vs:Value):Calls Tryz.prog 13 #[.pointer (some ⟨g,0,none⟩),vs] w (WkEx k col g w):=by
 match k,h with
 | 0,h=>exact (swork_rec h (by omega) (by simp) (by simp) iA_put.1 rfl vs).mono fun _ _ h=>⟨_,h⟩
 | 1,h=>exact (swork_bar h (by omega) (by simp) (by simp) iA_put.2 rfl vs).mono fun _ _ h=>⟨_,h⟩
 | 2,h=>exact (swork_met h (by omega) (by simp) (by simp) vs).mono fun _ _ h=>⟨_,h⟩
 | k+3,h=>exact (swork_none h (by omega) (by simp) (by simp) vs).mono fun _ _ h=>⟨_,h⟩
theorem stEx_fs (k:Nat):∃ F,(stEx k).fs=[F]/\(2<=k->mdEx k=stEx k/\F.left=[])/\(k < 2->0 < F.left.length):=by
 match k with
 | 0=>exact ⟨_,rfl,by simp,by simp⟩
 | 1=>exact ⟨_,rfl,by simp,by simp⟩
 | 2=>exact ⟨_,rfl,by simp [mdEx],by simp⟩
 | k+3=>exact ⟨_,rfl,by simp [mdEx],by simp⟩
end
def MadeP (w:World) (e:Ending) (w':World):Prop:=∃ g Y col',e=.returned (.pointer (some ⟨g,0,none⟩))/\RigM col' w' g (rgS 0 0 [] [] [] false 0 false [] []) Y/\Cg RC (fun _=>5000) w col' w'
theorem madeP_any {w0 w:World} {A:Option Addr} {c:Nat} {M:List Ndm} (hn:Nds w w.heap.size A 2 M) (hf:fstN M=passL 1):Calls Tryz.prog 9 #[.slice A 2 c,.int .i64 1,.int .i64 0,.slice none 0 0] w (MadeP w):=by
 have h:=made_any1 (fun _=>5000) w A none 2 c 0 M 1 0 (pasS 1) [] hn (small_pass hf) (by rw [hf];exact pass_right 1) (by rw [hf];rfl) (by omega) (by decide) (by simp) rfl Reads.none_ (fun q _=>by unfold RC TC;omega);rw [hf,task0_pass,feeds_pass,drains_pass] at h;exact h
def XC (c:Nat):Prop:=RC c \/ c=10
theorem awake20_any (w:World):Calls Tryz.prog 8 #[] w fun e w'=>e=.returned (.bool true)/\Fr w.heap.size [] w w':=by
 have HP:=zh (pass_any 1 w);go_enter Tryz.func8,Tryz.ntmps8;go_wp2_with fail;refine HP.out.mono ?_;rintro e w1 ⟨A,c,M,rfl,hn,hf,f1⟩;have F1:=zh f1;have HMD:=zh (madeP_any (w0:=w) (c:=c) (hn.nds (Fr.refl w1.heap.size [] w1) (by simp)) hf);clear HP f1 hn hf;go_wp2_with fail;refine HMD.out.mono ?_;rintro e w2 ⟨g,Y,col2,rfl,hrm,hcg⟩;have RM:=zh hrm;have CC:=zh (hcg.mono (C':=XC) (fun _ h=>.inl h));clear hrm hcg HMD;obtain ⟨gk,b,off,go,lA,lc,hgf,_,hS0,hS⟩:=RM.out.feed0 rfl;have HGF:=zh hgf;have SF:=zh hS;obtain ⟨r1,x1⟩:=hS0 _ _ (Cg.refl _ _ _);clear hgf hS hS0;have BS:=zh (Blk.new w2 46 #[.bool false,.int .i64 3,.int .i64 0,.int .i64 0,.int .i64 0,.bool false,.bool true,.int .i64 0,.int .i64 0,.int .i64 0,.int .i64 1,.bool false]);have INV:=zh (((cgf (col:=col2) (· = 201) (Fr.refl w2.heap.size [] w2)).new (.cells #[.bool false,.int .i64 3,.int .i64 0,.int .i64 0,.int .i64 0,.bool false,.bool true,.int .i64 0,.int .i64 0,.int .i64 0,.int .i64 1,.bool false] 46)).repaint w2.heap.size 201 (Nat.le_refl _));have KB:=zh (show paint col2 w2.heap.size 201 w2.heap.size=201 from paint_ge (Nat.le_refl _));have z3:=SF.out _ _ INV.out;have z2:=z3.b.cell 2;have zf:=z3.b.frozen 2;have zl:=z3.b.lt;generalize paint col2 w2.heap.size 201=col3 at *;clear z3;go_upto_region 5 with fail;have hr:CR col3 201 (w2.alloc (.cells #[.bool false,.int .i64 3,.int .i64 0,.int .i64 0,.int .i64 0,.bool false,.bool true,.int .i64 0,.int .i64 0,.int .i64 0,.int .i64 1,.bool false] 46)) 46 6 (.slice (some ⟨w2.heap.size,0,none⟩) 2 2) 2 (itmsC [iA1,iA2]):=⟨RowO.of_own (owns_blk BS.out rfl (Nat.le_refl _) (by unfold maxLen;omega)),fun g hg=>by injection hg with hg;subst hg;exact KB.out⟩;obtain ⟨hm,_,hk⟩:=RM.out.left (j:=0) (n:=2) (l:=[iA1,iA2]) (by rw [HGF.out];rfl) rfl rfl INV.out hr;have RM3:=zh (hm:RigM _ _ g (stEx 0) Y);have CC3:=zh (CC.out.trans (hk.mono (C':=XC) (fun q hq=>.inl (.inr (.inr (.inr (by omega)))))));clear hr hm hk BS INV KB z2 zf zl r1 x1;generalize (w2.alloc _).setCell _ _=w3 at *;go_upto_region 6 with fail;go_loopg [2] 6 (fun q s2 wr=>∃ k:Nat,k<=6/\q=6 - k/\s2=.int .i64 k/\∃ Yr colr,Hid (RigM colr wr g (stEx k) Yr)/\Hid (Cg XC (fun _=>5000) w1 colr wr))
 case atStart=>exact ⟨0,Nat.zero_le _,rfl,rfl,Y,col3,RM3,CC3⟩
 case round =>
  clear RM3 CC3 RM CC SF HGF;obtain ⟨k,hk,rfl,rfl,Yr,colr,RM,CC⟩:=hrel
  by_cases hk6:k < 6
  ·
   have hki:(k:Int) < 6:=by omega
   obtain ⟨F,hF,hA,hB⟩:=stEx_fs k;obtain ⟨gk,b,off,go,lA,lc,_,_,hS0,hS⟩:=RM.out.feed0 hF;obtain ⟨r1,x1⟩:=hS0 _ _ (Cg.refl _ _ _);have h3:=hS _ _ (Cg.refl _ _ _);have y2:=h3.b.cell 2;replace y2:wr.cell? ⟨gk,2,none⟩=some (.slice lA F.left.length lc):=y2;clear h3 hS hS0
   by_cases hk2:k < 2
   ·
    have hpos:(0:Int) < (F.left.length:Int):=by have:=hB hk2;omega
    have HSD:=zh (stEx_send hk2 RM.out);generalize F.left.length=nl at *;clear hA hB hF;go_wp2_with fail;refine HSD.out.mono ?_;rintro e w4 ⟨col4,rfl,hm,hc⟩;have CC4:=zh (CC.out.trans (hc.mono (C':=XC) (fun _ h=>h)));have HWK:=zh (mdEx_work hm (.pointer none));clear hm hc HSD r1 x1 y2 RM CC;go_wp2_with fail;refine HWK.out.mono ?_;rintro e w5 ⟨did,Y5,col5,rfl,hm,hc⟩;have RM5:=zh hm;have CC5:=zh (CC4.out.trans (hc.mono (C':=XC) (fun _ h=>.inl h)));clear hm hc HWK CC4;go_wp2_with fail;go_roundg (6 - (k+1))
    case measure=>omega
    case rel=>exact ⟨k+1,hk6,rfl,by go_num,Y5,col5,RM5,CC5⟩
   ·
    obtain ⟨h1,h2⟩:=hA (by omega);rw [h2] at y2;replace y2:wr.cell? ⟨gk,2,none⟩=some (.slice lA 0 lc):=y2;have RMk:=RM.out;rw [<- h1] at RMk;have HWK:=zh (mdEx_work RMk (.pointer none));clear RMk h1 h2 hA hB hF;go_wp2_with fail;refine HWK.out.mono ?_;rintro e w5 ⟨did,Y5,col5,rfl,hm,hc⟩;have RM5:=zh hm;have CC5:=zh (CC.out.trans (hc.mono (C':=XC) (fun _ h=>.inl h)));clear hm hc HWK CC RM;go_wp2_with fail;go_roundg (6 - (k+1))
    case measure=>omega
    case rel=>exact ⟨k+1,hk6,rfl,by go_num,Y5,col5,RM5,CC5⟩
  ·
   obtain rfl:k=6:=by omega
   have R6:RigM colr wr g (rgS 2 2 [] [] [lnS iA1] false 0 false [] [⟨1,0,1,[],[lnS iA1],0⟩]) Yr:=RM.out;obtain ⟨x,hx,hxa⟩:=List.map_eq_singleton_iff.1 (show Yr.aks.map (·.a)=[⟨1,0,1,[],[lnS iA1],0⟩] from R6.al);obtain ⟨xa,eA,ec,lA,lc⟩:=x;simp only at hxa;subst hxa;have r3:wr.cell? ⟨g,3,none⟩=some (.slice Yr.aA 1 Yr.ac):=R6.st.b.cell 3;have har:=R6.ar.r.reads;rw [hx] at har;obtain ⟨b,off,hA,_,hcell⟩:=har.2 (by show 0 < 1;omega);rw [hA] at r3;have c2:=hcell 2 _ rfl;have c4:=hcell 4 _ rfl;replace c2:wr.cell? ⟨b,off+2,none⟩=some (.int .i64 1):=c2;replace c4:wr.cell? ⟨b,off+4,none⟩=some (.slice lA 1 lc):=c4;obtain ⟨b2,off2,hA2,_,hcell2⟩:=(R6.am _ (by rw [hx];exact List.mem_singleton.2 rfl)).2.1.2 (by show 0 < 1;omega);simp only at hA2;rw [hA2] at c4;have d2:=hcell2 2 _ rfl;replace d2:wr.cell? ⟨b2,off2+2,none⟩=some (.int .i64 3):=d2;clear hcell hcell2 har hx hA hA2 R6 RM;go_wp2_with fail;go_ret;exact ⟨rfl,F1.out.trans (CC.out.fr F1.out.size (fun _ _ h=>by unfold XC RC TC at h;omega))⟩
end Go.Proofs.YtgblfflikgnfpaaGreat
namespace Go.Proofs.YtgblfflikgnfpaaGreat
open Go.RowKit Go.Fb
set_option maxRecDepth 100000
set_option maxHeartbeats 16000000
set_option linter.unusedVariables false
theorem task0_T {L:List Nd} {nd:Nd} {id:Int} {k:Nat} {l:List (Nat->Int)} (h:nd.id=id):(task0 L nd (k:Int) 1 l).T=tabL (partC id nd.rt k l):=by
 rw [<- h];rfl
theorem task0_says {L:List Nd} {nd:Nd} {id:Int} {k:Nat} {l:List (Nat->Int)} (h:nd.id=id):(task0 L nd (k:Int) 1 l).nd.id=id/\(task0 L nd (k:Int) 1 l).ix=(k:Int)/\(task0 L nd (k:Int) 1 l).lns=[]/\askE (task0 L nd (k:Int) 1 l) 1=(if nd.kind=0 then 0 else 1):=by
 refine ⟨h,rfl,rfl,?_⟩;unfold askE task0 Itm.zero
 by_cases hkd:nd.kind=0 <;> simp [hkd]
theorem part_ok {id:Int} {r:Nat->Int} {k:Nat} {l:List (Nat->Int)} (h:l.all okE=true):TOk (tabL (partC id r k l)):=by
 refine tabL_ok _ _ TOk.zero ?_;rw [List.all_eq_true];intro y hy;exact List.all_eq_true.1 h y (List.mem_filter.1 hy).1
section
variable {col:Nat->Nat} {w:World} {g gu:Nat} {S:TaskS} {X:TX} {T:Pk->CV} {AT:List (Nat->Int)}
theorem ents_of (h:TaskM col w g S X) (hT:S.T=T) (hok:TOk T) (hA:AT=allT T):Calls Tryz.prog 33 #[.pointer (some ⟨g,0,none⟩)] w (EntsOut AT w):=by
 have h9:=entries_any h (by rw [hT];exact hok);rw [hT,<- hA] at h9;exact h9
theorem all_of (h:RT w gu T) (hA:AT=allT T):Calls Tryz.prog 37 #[.pointer (some ⟨gu,0,none⟩)] w fun e w'=>∃ A n c,n=AT.length/\e=.returned (.slice A n c)/\w'.ownsRow w.heap.size 96 6 (.slice A n c) n (cellsE AT)/\Fr w.heap.size [] w w':=by
 have h9:=r7all_any gu T w h;unfold R7AOut at h9;rw [<- hA] at h9;exact h9
theorem lines_of (h:TaskM col w g S X) (hl:S.lns=[]):Calls Tryz.prog 15 #[.pointer (some ⟨g,0,none⟩)] w fun e w'=>∃ A c,e=.returned (.slice A 0 c)/\Fr w.heap.size [] w w':=by
 refine (lines_any h (by rw [hl];simp)).mono ?_;rintro e w' ⟨A,c,rfl,_,hf⟩;rw [hl];exact ⟨A,c,rfl,hf⟩
theorem ask_of {v:Int} (h:TaskM col w g S X) (hv:askE S 1=v):Calls Tryz.prog 31 #[.pointer (some ⟨g,0,none⟩),.int .i64 1,.bool false] w fun e w'=>e=.returned (.int .i64 v)/\Cg (· = 1) col w col w':=by
 refine (ask_any h 1 false).mono ?_;rintro e w' ⟨rfl,_,hk⟩;rw [hv];exact ⟨rfl,hk⟩
end
theorem and_no {a b:Bool} (h:¬ (a=true/\b=true)):(a && b)=false:=by cases a <;> cases b <;> simp_all
theorem newE_zero {L:List Nd} {id ix:Int} {l:List (Nat->Int)} {nd:Nd} (h0:0=newE L id ix l) (hf:findN L id=some nd):checkN L=0/\0<=ix/\ix < nd.par/\l.all okE=true:=by
 unfold newE at h0
 by_cases hc9:checkN L=0
 ·
  rw [if_neg (by rw [hc9];simp),hf] at h0;replace h0:(0:Int)=if ix < 0 \/ nd.par<=ix then 12 else if l.all okE then 0 else 1:=h0
  by_cases hi9:ix < 0 \/ nd.par<=ix
  · rw [if_pos hi9] at h0;exact absurd h0 (by decide)
  ·
   rw [if_neg hi9] at h0
   cases hok9:l.all okE with
   | true=>exact ⟨hc9,by omega,by omega,rfl⟩
   | false=>rw [hok9] at h0;exact absurd h0 (by decide)
 · rw [if_pos hc9] at h0;exact absurd h0 (by decide)
theorem walk_TaskMakes (A:Option Addr) (n c:Nat) (M:List Ndm) (hnc:n<=c) (hm:c<=maxLen) (id ix:Int) (eA:Option Addr) (ec:Nat) (l:List (Nat->Int)) (hec:l.length<=ec) (hem:ec<=maxLen) (w:World) (h:Nds w w.heap.size A n M) (hcap:CapN M) (he:Reads w w.heap.size 6 eA l.length (cellsE l)) :
  Calls Tryz.prog 6 #[.slice A n c,.agg #[.int .i64 id,.int .i64 ix],.slice eA l.length ec] w fun e w'=>e=.returned (.bool true)/\Below w.heap.size w w':=by
 obtain ⟨L,hL⟩:=nm (fstN M);have HL:=zh hL;have H:=zh h;have HCAP:=zh hcap;have HE:=zh he;have HG0:=great08_any A c w.heap.size n M;obtain ⟨gb,hgb⟩:=nm (greatN L)
 have HG := zh (fun (wx : World) (hx : Fr w.heap.size [] w wx) => (by
  have:=HG0 wx (h.frw hx (Nat.le_refl _) (by simp)) hx.size (by omega);rw [<- hL,<- hgb] at this
  exact this:Calls Tryz.prog 21 #[.slice A n c] wx fun e w'=>e=.returned (.bool gb)/\Fr wx.heap.size [] wx w'))
 have HGB:=zh hgb;obtain ⟨ne,hne⟩:=nm (l.length);have HNE:=zh hne;have hem2:=Nat.le_trans hec hem;unfold maxLen at hem2;rw [<- hne] at hem2 ⊢;have FB:=zh ((Fr.refl w.heap.size [] w).alloc (Nat.le_refl _) (.cells #[.int .i64 id,.int .i64 ix] 56));have BA:=zh (Blk.new w 56 #[.int .i64 id,.int .i64 ix]);have hmn:=Nat.le_trans hnc hm;unfold maxLen at hmn;clear h hL hgb HG0 hcap he hne hec hem hnc hm;go_enter Tryz.func6,Tryz.ntmps6;go_upto_region 1 with fail;obtain ⟨gat,hgat⟩:=nm (w.heap.size);rw [<- hgat] at BA ⊢;have HGAT:=zh (show w.heap.size<=gat by omega);clear hgat;generalize w.alloc _=w0 at *;go_wp2_with fail;refine (awake20_any _).mono ?_;rintro e w1 ⟨rfl,f1⟩;have F1:=zh (FB.out.nx f1);have BA1:=zh (BA.out.fr f1 BA.out.lt (by simp));clear f1 FB BA;go_wp2_with fail;refine (HG.out w1 F1.out).mono ?_;rintro e w2 ⟨rfl,f2⟩;have F2:=zh (F1.out.nx f2);have BA2:=zh (BA1.out.fr f2 BA1.out.lt (by simp));clear f2 HG F1 BA1
 cases gb with
 | true =>
  go_wp2_with fail;go_ret;exact ⟨rfl,F2.out.below⟩
 | false =>
 by_cases h60:ne<=60
 case neg =>
  have hd:decide (60 < (ne:Int))=true:=decide_eq_true (by omega);go_wp2_with fail;go_ret;exact ⟨rfl,F2.out.below⟩
 have hd60:decide (60 < (ne:Int))=false:=decide_eq_false (by omega);obtain ⟨hl20,hs,_⟩:=small_grt (by rw [<- HL.out];exact HGB.out.symm:greatN (fstN M)=false);have HS:=zh hs;have hn20:n<=20:=(by rw [H.out.num];exact hl20);clear hs hl20 HGB;obtain ⟨E,hE⟩:=nm (newE L id ix l);have HEE:=zh hE
 have HNW := zh (by
  have:=tnew_uni (fun _=>5000) w2 A eA n c ec M id ix 1 l ((H.out.frw F2.out (Nat.le_refl _) (by simp)).more F2.out.size) HS.out (by rw [<- HNE.out];omega) ((HE.out.fr F2.out (Nat.le_refl _) (by simp)).more F2.out.size) (fun q _=>by unfold TC;omega);unfold NewU at this;rw [<- HL.out,<- hE,<- HNE.out] at this
  exact this)
 clear hE;have a0:=BA2.out.cell 0;have a1:=BA2.out.cell 1;simp at a0 a1;go_wp2_with fail;refine HNW.out.mono ?_;rintro e w3 ⟨tp,col3,rfl,hcg,h0,h1⟩;have f3:Fr w2.heap.size [] w2 w3:=hcg.fr (Nat.le_refl _) (fun _ _ h=>h);have F3:=zh (F2.out.nx f3);have BA3:=zh (BA2.out.fr f3 BA2.out.lt (by simp));have HT0:=zh h0;have HT1:=zh h1;have HCO:=zh (show (∀ q,q < w2.heap.size->col3 q=5000)/\gat < w2.heap.size/\w2.heap.size<=w3.heap.size/\w.heap.size<=w2.heap.size from ⟨fun q hq=>hcg.same q hq,BA2.out.lt,hcg.size,F2.out.size⟩);clear f3 hcg h0 h1 HNW F2 BA2 a0 a1;have a0:=BA3.out.cell 0;have a1:=BA3.out.cell 1;simp at a0 a1;have HFI:=zh (by have:=rfind_any id A c w.heap.size n M w3 (H.out.frw F3.out (Nat.le_refl _) (by simp)) (by omega);rw [<- HL.out] at this;exact this);obtain ⟨kx,hkx⟩:=nm (ixN L id);rw [<- hkx] at HFI;have HKX:=zh hkx;clear hkx;go_wp2_with fail;refine HFI.out.mono ?_;rintro e w4 ⟨rfl,rfl⟩;clear HFI;go_upto_region 10 with fail;go_loopg [11,13,48] ne (fun q s11 s13 s48 wr=>∃ k:Nat,k<=ne/\q=ne - k/\s48=.int .i64 k/\s11=.bool ((l.take k).all okE)/\(s13=undef \/ ∃ a,s13=.pointer a)/\Hid (Fr w3.heap.size [] w3 wr))
 case atStart=>exact ⟨0,Nat.zero_le _,rfl,rfl,rfl,.inl rfl,zh (Fr.refl _ _ _)⟩
 case round =>
  obtain ⟨k,hk,rfl,rfl,rfl,hs13,FW⟩:=hrel
  by_cases hkn:k < ne
  ·
   have hki:(k:Int) < (ne:Int):=by omega
   obtain ⟨x,hx⟩:∃ x,l[k]?=some x:=⟨_,List.getElem?_eq_getElem (by rw [<- HNE.out];exact hkn)⟩;obtain ⟨be,oe,rfl,_,_,hcell⟩:=Reads.elem (f:=entC) (fun _=>rfl) (HE.out.fr (F3.out.nx FW.out) (Nat.le_refl _) (by simp)) hx (by omega);have y0:=hcell 0 _ rfl;have y1:=hcell 1 _ rfl;have y2:=hcell 2 _ rfl;have y3:=hcell 3 _ rfl;have y4:=hcell 4 _ rfl;have y5:=hcell 5 _ rfl;simp only [Nat.add_zero] at y0;obtain ⟨b1,hb1⟩:=nm ((l.take k).all okE);rw [<- hb1];have HNX:=zh (show (l.take (k+1)).all okE=(b1 && okE x) by rw [List.take_add_one,hx,List.all_append,hb1];simp);obtain ⟨b2,hb2⟩:=nm (okE x);have HRT:=zh (fun W=>(by rw [hb2];exact rright07_any x W:Calls Tryz.prog 29 #[.agg #[.int .i64 (x 0),.int .i64 (x 1),.int .i64 (x 2),.int .i64 (x 3),.int .i64 (x 4),.int .i64 (x 5)]] W fun e w'=>e=.returned (.bool b2)/\Fr W.heap.size [] W w'));rw [<- hb2] at HNX;have FA:=zh (FW.out.alloc FW.out.size (.cells #[.int .i64 (x 0),.int .i64 (x 1),.int .i64 (x 2),.int .i64 (x 3),.int .i64 (x 4),.int .i64 (x 5)] 96));have BX:=zh (Blk.new wr 96 #[.int .i64 (x 0),.int .i64 (x 1),.int .i64 (x 2),.int .i64 (x 3),.int .i64 (x 4),.int .i64 (x 5)]);clear hcell hx hb1 hb2;go_upto_region 12 with fail;generalize wr.alloc _=w5 at *;have x0:=BX.out.cell 0;have x1:=BX.out.cell 1;have x2:=BX.out.cell 2;have x3:=BX.out.cell 3;have x4:=BX.out.cell 4;have x5:=BX.out.cell 5;simp at x0 x1 x2 x3 x4 x5;clear y0 y1 y2 y3 y4 y5
   cases b1 with
   | true =>
    go_wp2_with fail;refine (HRT.out _).mono ?_;rintro e w6 ⟨rfl,f6⟩;have FX:=zh (FA.out.nx f6);clear f6 FA;go_wp2_with fail;go_roundg (ne - (k+1))
    case measure=>omega
    case rel=>exact ⟨k+1,hkn,rfl,by go_num,by rw [HNX.out];rfl,.inr ⟨_,rfl⟩,FX⟩
   | false =>
    go_wp2_with fail;go_roundg (ne - (k+1))
    case measure=>omega
    case rel=>exact ⟨k+1,hkn,rfl,by go_num,by rw [HNX.out];rfl,.inr ⟨_,rfl⟩,FA⟩
  ·
   obtain rfl:k=ne:=by omega
   have hall:l.take k=l:=List.take_of_length_le (by rw [<- HNE.out];exact Nat.le_refl _);rw [hall];obtain ⟨rt,hrt⟩:=nm (l.all okE);rw [<- hrt];have HRR:=zh hrt;have F4:=zh (F3.out.nx FW.out);have HRC:=zh (by have:=rcheck_any A c w.heap.size n M wr (H.out.frw F4.out (Nat.le_refl _) (by simp)) F4.out.size HS.out HCAP.out;rw [<- HL.out] at this;exact this);have BA4:=zh (BA3.out.fr FW.out BA3.out.lt (by simp));obtain ⟨cv,hcv⟩:=nm (checkN L);rw [<- hcv] at HRC;have HCV:=zh hcv;clear hall hrt hcv;go_upto_block 2 with fail;go_cut [10] (fun s10 wx=>s10=.int .i64 E/\Hid (Fr wr.heap.size [] wr wx))
   case first =>
    by_cases hcv:cv=0
    case neg =>
     have hE9:E=10:=(by rw [HEE.out];unfold newE;rw [if_pos (by rw [<- HCV.out];exact hcv)]);have HE9:=zh hE9;clear hE9;go_wp2_with fail;refine HRC.out.mono ?_;rintro e w5 ⟨rfl,f5⟩;have F5:=zh f5;clear f5;go_wp2_with fail;go_meet;exact ⟨by rw [HE9.out],F5⟩
    have HNE2 := zh (show E = match findN L id with
      | none=>12
      | some nd=>if ix < 0 \/ nd.par<=ix then 12 else if rt then 0 else 1 by rw [HEE.out];unfold newE;rw [if_neg (by rw [<- HCV.out,hcv];simp),HRR.out];rfl)
    rcases ixN_cases L id with ⟨h1,h2⟩ | ⟨gi,nd,h1,h2,h3⟩
    ·
     have hE9:E=12:=by rw [HNE2.out,h2]
     have HE9:=zh hE9;have hk9:kx = -1:=HKX.out.trans h1;subst hcv hk9;clear hE9 h1 h2;go_wp2_with fail;refine HRC.out.mono ?_;rintro e w5 ⟨rfl,f5⟩;have F5:=zh f5;clear f5;go_upto_region 16 with fail;go_quiet (fail);go_wp2_with fail;go_meet;exact ⟨by rw [HE9.out],zh (F5.out.drewN _)⟩
    ·
     have hk9:kx=(gi:Int):=HKX.out.trans h1;have hgi:gi < M.length:=(by have:=(List.getElem?_eq_some_iff.1 h2).1;rw [HL.out] at this;simpa [fstN] using this);have hgn:(gi:Int) < (n:Int):=(by rw [H.out.num];omega);obtain ⟨m1,hm1⟩:∃ m1,M[gi]?=some m1:=⟨_,List.getElem?_eq_getElem hgi⟩
     have hmx:m1.1=nd:=by
      rw [HL.out] at h2;unfold fstN at h2;rw [List.getElem?_map,hm1] at h2;injection h2
     obtain ⟨b1,o1,hA1,_,_⟩:=H.out.get hm1;subst hA1
     have P4 := zh (fun W (hf : Fr w.heap.size [] w W) => (by
      obtain ⟨b,off,hA,_,hc⟩:=(H.out.frw hf (Nat.le_refl _) (by simp)).get hm1;injection hA with hA
      injection hA with hA1 hA2
      subst hA1 hA2;have:=hc 4 _ (ndL_get m1).2.2.2.2.1;rw [hmx] at this
      exact this:W.cell? ⟨b1,o1+gi * 13+4,none⟩=some (.int .i64 nd.par)))
     rw [h3] at HNE2;have HNE3:=zh (show E=if ix < 0 \/ nd.par<=ix then 12 else if rt then 0 else 1 from HNE2.out);obtain ⟨pr,hpr⟩:=nm (nd.par);rw [<- hpr] at P4 HNE3;have hgi0:¬ ((gi:Int) < 0):=(by omega);have hgi1:(0:Int)<=(gi:Int):=(by omega);subst hcv hk9;clear h1 h2 h3 hm1 hmx hgi HNE2 hpr;have hix:(ix < 0 \/ (¬ ix < 0/\pr<=ix)) \/ (¬ ix < 0/\¬ pr<=ix):=(by omega)
     rcases hix with hix | ⟨hi0,hi1⟩
     ·
      have HE9:=zh (show E=12 by rw [HNE3.out,if_pos (by omega)])
      rcases hix with hi0 | ⟨hi0,hi1⟩
      · go_wp2_with fail;refine HRC.out.mono ?_;rintro e w5 ⟨rfl,f5⟩;have p4:=P4.out w5 (F4.out.nx f5);have F5:=zh f5;have a1:w5.cell? ⟨gat,1,none⟩=some (.int .i64 ix):=(BA4.out.fr f5 BA4.out.lt (by simp)).cell 1;clear f5;go_upto_region 16 with fail;have hb1:decide ((gi:Int) < 0)=false:=decide_eq_false (by omega);have hb2:decide (ix < 0)=true:=decide_eq_true (by omega);go_quiet (fail);go_wp2_with fail;go_meet;exact ⟨by rw [HE9.out],zh (F5.out.drewN _)⟩
      · go_wp2_with fail;refine HRC.out.mono ?_;rintro e w5 ⟨rfl,f5⟩;have p4:=P4.out w5 (F4.out.nx f5);have F5:=zh f5;have a1:w5.cell? ⟨gat,1,none⟩=some (.int .i64 ix):=(BA4.out.fr f5 BA4.out.lt (by simp)).cell 1;clear f5;go_upto_region 16 with fail;have hb1:decide ((gi:Int) < 0)=false:=decide_eq_false (by omega);have hb2:decide (ix < 0)=false:=decide_eq_false (by omega);have hb3:decide (pr<=ix)=true:=decide_eq_true (by omega);go_quiet (fail);go_wp2_with fail;go_meet;exact ⟨by rw [HE9.out],zh (F5.out.drewN _)⟩
     ·
      have HE9:=zh (show E=if rt then 0 else 1 by rw [HNE3.out,if_neg (by omega)])
      cases rt with
      | true =>
       go_wp2_with fail;refine HRC.out.mono ?_;rintro e w5 ⟨rfl,f5⟩;have p4:=P4.out w5 (F4.out.nx f5);have F5:=zh f5;have a1:w5.cell? ⟨gat,1,none⟩=some (.int .i64 ix):=(BA4.out.fr f5 BA4.out.lt (by simp)).cell 1;clear f5;go_upto_region 16 with fail;have hb1:decide ((gi:Int) < 0)=false:=decide_eq_false (by omega);have hb2:decide (ix < 0)=false:=decide_eq_false (by omega);have hb3:decide (pr<=ix)=false:=decide_eq_false (by omega);go_quiet (fail);go_wp2_with fail;go_meet;exact ⟨by rw [HE9.out];rfl,zh (F5.out.drewN _)⟩
      | false =>
       go_wp2_with fail;refine HRC.out.mono ?_;rintro e w5 ⟨rfl,f5⟩;have p4:=P4.out w5 (F4.out.nx f5);have F5:=zh f5;have a1:w5.cell? ⟨gat,1,none⟩=some (.int .i64 ix):=(BA4.out.fr f5 BA4.out.lt (by simp)).cell 1;clear f5;go_upto_region 16 with fail;have hb1:decide ((gi:Int) < 0)=false:=decide_eq_false (by omega);have hb2:decide (ix < 0)=false:=decide_eq_false (by omega);have hb3:decide (pr<=ix)=false:=decide_eq_false (by omega);go_quiet (fail);go_wp2_with fail;go_meet;exact ⟨by rw [HE9.out];rfl,zh (F5.out.drewN _)⟩
   case rest =>
    obtain ⟨rfl,FX⟩:=hcut;have F6:=zh (F4.out.nx FX.out);have F36:=zh (FW.out.nx FX.out);have BA6:=zh (BA4.out.fr FX.out BA4.out.lt (by simp));clear F4 FX FW BA4 HRC
    by_cases hE0:E=0
    case neg =>
     obtain rfl:=HT0.out hE0;have heb:(E == 0)=false:=(by rw [beq_eq_false_iff_ne];exact hE0);have heb2:(E != 0)=true:=(by rw [bne,heb];rfl);have heb3:decide (E=0)=false:=decide_eq_false hE0;clear HEE HNE HL;go_wp2_with fail;refine (work_nil _ _).mono ?_;rintro e w9 ⟨rfl,rfl⟩;go_wp2_with fail;refine (resume_nil _).mono ?_;rintro e w9 ⟨rfl,rfl⟩;go_wp2_with fail;refine (commit_nil _ _).mono ?_;rintro e w9 ⟨rfl,rfl⟩;go_wp2_with fail;refine (ask_nil _ _ _).mono ?_;rintro e w9 ⟨rfl,rfl⟩;go_wp2_with fail;refine (stopped_nil _).mono ?_;rintro e w9 ⟨rfl,rfl⟩;go_wp2_with fail;refine (tlines_nil _).mono ?_;rintro e w9 ⟨rfl,rfl⟩;go_wp2_with fail;refine (entries_nil _).mono ?_;rintro e w9 ⟨rfl,rfl⟩;go_wp2_with fail;refine (tick_nil _).mono ?_;rintro e w9 ⟨rfl,rfl⟩;go_wp2_with fail;refine (take_nil _ ⟨0,0,0,0,0,emptyB⟩).mono ?_;rintro e w9 ⟨rfl,f9⟩;have F9:=zh (F6.out.nx f9);clear f9;go_wp2_with fail;go_ret;exact ⟨rfl,F9.out.below⟩
    subst hE0;obtain ⟨nd,g,X,hfn,rfl,hg2,htm⟩:=HT1.out rfl;have TM:=zh (htm.fr0 F36.out);have HFN:=zh hfn;have CG3:=zh hg2;clear hfn hg2 htm HT1 HT0
    rcases ixN_cases L id with ⟨_,h2⟩ | ⟨gi,nd9,h1,h2,h3⟩
    · exact absurd (h2.symm.trans HFN.out) (by simp)
    obtain rfl:nd9=nd:=by
     rw [HFN.out] at h3;injection h3 with h3
     exact h3.symm
    have hk9:kx=(gi:Int):=HKX.out.trans h1;subst hk9;have hgi:gi < M.length:=(by have:=(List.getElem?_eq_some_iff.1 h2).1;rw [HL.out] at this;simpa [fstN] using this);have hgn:(gi:Int) < (n:Int):=(by rw [H.out.num];omega);have hgi1:(0:Int)<=(gi:Int):=(by omega);obtain ⟨m1,hm1⟩:∃ m1,M[gi]?=some m1:=⟨_,List.getElem?_eq_getElem hgi⟩
    have hmx:m1.1=nd9:=by
     rw [HL.out] at h2;unfold fstN at h2;rw [List.getElem?_map,hm1] at h2;injection h2
    obtain ⟨b1,o1,hA1,_,_⟩:=H.out.get hm1;subst hA1
    have PN := zh (fun W (hf : Fr w.heap.size [] w W) => (by
     obtain ⟨b,off,hA,_,hc⟩:=(H.out.frw hf (Nat.le_refl _) (by simp)).get hm1;injection hA with hA
     injection hA with hA1 hA2
     subst hA1 hA2;rw [<- hmx];refine ⟨hc 1 _ (ndL_get m1).2.1,fun j hj => ?_⟩;have h9:=ndL_get m1
     have := hc (5 + j) (.int .i64 (m1.1.rt j)) (by
      rcases (show j=0 \/ j=1 \/ j=2 \/ j=3 \/ j=4 \/ j=5 \/ j=6 \/ j=7 by omega) with rfl | rfl | rfl | rfl | rfl | rfl | rfl | rfl
      · exact h9.2.2.2.2.2.1
      · exact h9.2.2.2.2.2.2.1
      · exact h9.2.2.2.2.2.2.2.1
      · exact h9.2.2.2.2.2.2.2.2.1
      · exact h9.2.2.2.2.2.2.2.2.2.1
      · exact h9.2.2.2.2.2.2.2.2.2.2.1
      · exact h9.2.2.2.2.2.2.2.2.2.2.2.1
      · exact h9.2.2.2.2.2.2.2.2.2.2.2.2)
     rw [<- Nat.add_assoc] at this
     exact this:W.cell? ⟨b1,o1+gi * 13+1,none⟩=some (.int .i64 nd9.kind) /\ ∀ j,j < 8->W.cell? ⟨b1,o1+gi * 13+5+j,none⟩=some (.int .i64 (nd9.rt j))))
    have HX0:=zh (newE_zero HEE.out HFN.out);obtain ⟨ik,hik⟩:∃ ik:Nat,(ik:Int)=ix:=⟨ix.toNat,by have:=HX0.out;omega⟩;subst hik;clear h1 h2 h3 hm1 hmx hgi HEE;go_wp2_with fail;refine (work_nil _ _).mono ?_;rintro e w9 ⟨rfl,rfl⟩;go_wp2_with fail;refine (resume_nil _).mono ?_;rintro e w9 ⟨rfl,rfl⟩;go_wp2_with fail;refine (commit_nil _ _).mono ?_;rintro e w9 ⟨rfl,rfl⟩;go_wp2_with fail;refine (ask_nil _ _ _).mono ?_;rintro e w9 ⟨rfl,rfl⟩;go_wp2_with fail;refine (stopped_nil _).mono ?_;rintro e w9 ⟨rfl,rfl⟩;go_wp2_with fail;refine (tlines_nil _).mono ?_;rintro e w9 ⟨rfl,rfl⟩;go_wp2_with fail;refine (entries_nil _).mono ?_;rintro e w9 ⟨rfl,rfl⟩;go_wp2_with fail;refine (tick_nil _).mono ?_;rintro e w9 ⟨rfl,rfl⟩;go_wp2_with fail;refine (take_nil _ ⟨0,0,0,0,0,emptyB⟩).mono ?_;rintro e w9 ⟨rfl,f9⟩;have F9:=zh (F6.out.nx f9);have F39:=zh (F36.out.nx f9);have TM9:=zh (TM.out.fr0 f9);have BA9:=zh (BA6.out.fr f9 BA6.out.lt (by simp));clear f9 TM BA6 F6;have fa:=(Fr.refl w9.heap.size [] w9).alloc (Nat.le_refl _) (.cells Tryz.zeroCells104 104);obtain ⟨gu,hgu⟩:=nm (w9.heap.size)
    have hru:RT (w9.alloc (.cells Tryz.zeroCells104 104)) gu (fun _=>c0):=by
     have h1:=Blk.new w9 104 Tryz.zeroCells104
     have e:Tryz.zeroCells104=tabA (fun _=>c0):=by
      rw [tabA_zero]
      kernel_rfl
     unfold RT;rw [<- e,hgu];exact h1
    have RT9:=zh hru;have FA9:=zh fa;have HGU:=zh hgu;clear hru fa;go_upto_region 29 with fail;rw [<- hgu];clear hgu;generalize w9.alloc _=w10 at *;go_upto_region 30 with fail;go_loopg [20,140] k (fun q s20 s140 wl=>∃ j:Nat,j<=k/\q=k - j/\s140=.int .i64 j/\(s20=undef \/ ∃ a,s20=.pointer a)/\Hid (RT wl gu (tabL (partC id nd9.rt ik (l.take j))))/\Hid (Fr w9.heap.size [] w9 wl))
    case atStart=>exact ⟨0,Nat.zero_le _,rfl,rfl,.inl rfl,RT9,FA9⟩
    case round =>
     clear RT9 FA9;obtain ⟨j,hj,rfl,rfl,hs20,RTW,FA⟩:=hrel
     by_cases hjk:j < k
     ·
      have hji:(j:Int) < (k:Int):=by omega
      obtain ⟨x,hx⟩:∃ x,l[j]?=some x:=⟨_,List.getElem?_eq_getElem (by rw [<- HNE.out];exact hjk)⟩;have hok:=List.all_eq_true.1 HX0.out.2.2.2 x (List.mem_of_getElem? hx);rw [okE_eq,Bool.and_eq_true,decide_eq_true_eq] at hok;obtain ⟨⟨hr0,hr1,hr2,hr3⟩,_⟩:=hok;obtain ⟨be,oe,rfl,_,_,hcell⟩:=Reads.elem (f:=entC) (fun _=>rfl) (HE.out.fr (F9.out.nx FA.out) (Nat.le_refl _) (by simp)) hx (by omega);have y0:=hcell 0 _ rfl;have y1:=hcell 1 _ rfl;have y2:=hcell 2 _ rfl;have y3:=hcell 3 _ rfl;have y4:=hcell 4 _ rfl;have y5:=hcell 5 _ rfl;simp only [Nat.add_zero] at y0;have HPS:=zh (partC_step (id:=id) (r:=nd9.rt) (t:=ik) hx);obtain ⟨n0,hn0⟩:∃ n0:Nat,(n0:Int)=x 0:=⟨(x 0).toNat,by omega⟩;obtain ⟨k0,hk0⟩:∃ k0:Nat,(k0:Int)=x 1:=⟨(x 1).toNat,by omega⟩;have hn8:n0 < 8:=(by omega);have hk64:k0 < 64:=(by omega);rw [<- hn0] at y0;rw [<- hk0] at y1;obtain ⟨kk,hkk⟩:=nm (k0 % 8);have hkk8:kk < 8:=(by omega);obtain ⟨rv,hrv⟩:=nm (nd9.rt kk)
      have HIN := zh (show inPart id nd9.rt ik x = ((n0 : Int) == id && rv == (ik : Int)) by
       unfold inPart
       rw [<- hn0,<- hk0,show ((k0:Int) % 8).toNat=kk by omega,hrv])
      have HPX:=zh (show entP x=((n0:Int),(k0:Int)) by unfold entP;rw [hn0,hk0]);obtain ⟨x2,h2⟩:=nm (x 2);obtain ⟨x3,h3⟩:=nm (x 3);obtain ⟨x4,h4⟩:=nm (x 4);obtain ⟨x5,h5⟩:=nm (x 5);rw [<- h2] at y2;rw [<- h3] at y3;rw [<- h4] at y4;rw [<- h5] at y5;have HVX:=zh (show entV x=(x2,x3,x4,x5) by unfold entV;rw [h2,h3,h4,h5]);have HRV:=zh hrv;have FX:=zh (FA.out.alloc FA.out.size (.cells #[.int .i64 (n0:Int),.int .i64 (k0:Int),.int .i64 x2,.int .i64 x3,.int .i64 x4,.int .i64 x5] 96));have fa:=(Fr.refl wr.heap.size [] wr).alloc (Nat.le_refl _) (.cells #[.int .i64 (n0:Int),.int .i64 (k0:Int),.int .i64 x2,.int .i64 x3,.int .i64 x4,.int .i64 x5] 96);have BX:=zh (Blk.new wr 96 #[.int .i64 (n0:Int),.int .i64 (k0:Int),.int .i64 x2,.int .i64 x3,.int .i64 x4,.int .i64 x5]);have HGX:=zh (RTW.out.lt);have RTW:=zh (RTW.out.fr fa RTW.out.lt (by simp));have hkki:(k0:Int) % 8=(kk:Int):=(by omega);have hkkt:(k0:Int).tmod 8=(kk:Int):=(by rw [Int.tmod_eq_emod_of_nonneg (by omega)];omega);have hkkw:IntKind.i64.wrap ((k0:Int).tmod 8)=(kk:Int):=(by rw [hkkt,IntKind.wrap_i64];omega);have hkk0:(0:Int)<=(kk:Int):=(by omega);have hkk1:(kk:Int) < 8:=(by omega);clear hcell hx hn0 hk0 h2 h3 h4 h5 hkk hrv hr0 hr1 hr2 hr3 fa;obtain ⟨gx,hgx⟩:=nm (wr.heap.size);go_upto_region 32 with fail;rw [<- hgx] at BX ⊢;have hgux:gu < gx:=(by rw [hgx];exact HGX.out);clear hgx FA y0 y1 y2 y3 y4 y5 HGX;generalize wr.alloc _=w5 at *;have BA5:=zh (BA9.out.fr FX.out BA9.out.lt (by simp));have x0:w5.cell? ⟨gx,0,none⟩=some (.int .i64 (n0:Int)):=BX.out.cell 0;have x1:w5.cell? ⟨gx,1,none⟩=some (.int .i64 (k0:Int)):=BX.out.cell 1;have a0:w5.cell? ⟨gat,0,none⟩=some (.int .i64 id):=BA5.out.cell 0;have a1:w5.cell? ⟨gat,1,none⟩=some (.int .i64 (ik:Int)):=BA5.out.cell 1;have p5:w5.cell? ⟨b1,o1+gi * 13+5+kk,none⟩=some (.int .i64 rv):=(by rw [HRV.out];exact (PN.out w5 (F9.out.nx FX.out)).2 kk hkk8);obtain ⟨c1,hc1⟩:=nm (((n0:Int) == id));obtain ⟨c2,hc2⟩:=nm ((rv == (ik:Int)));rw [<- hc1,<- hc2] at HIN;have hc1':=hc1.symm;have hc2':=hc2.symm;clear hc1 hc2
      by_cases hcc:c1=true/\c2=true
      case neg =>
       have HNX := zh (show tabL (partC id nd9.rt ik (l.take (j + 1))) = tabL (partC id nd9.rt ik (l.take j)) by
        rw [HPS.out,HIN.out,and_no hcc]
        simp)
       cases c1 with
       | false =>
        clear hcc;go_quiet (fail);go_wp2_with fail;go_roundg (k - (j+1))
        case measure=>omega
        case rel=>exact ⟨j+1,hjk,rfl,by go_num,.inr ⟨_,rfl⟩,by rw [HNX.out];exact zh (RTW.out.fr (L:=[]) (B:=w5.heap.size) ((Fr.refl _ _ _).drewN _) RTW.out.lt (by simp)),zh (FX.out.drewN _)⟩
       | true =>
        obtain rfl:c2=false:=by simpa using hcc
        clear hcc;go_quiet (fail);go_wp2_with fail;go_roundg (k - (j+1))
        case measure=>omega
        case rel=>exact ⟨j+1,hjk,rfl,by go_num,.inr ⟨_,rfl⟩,by rw [HNX.out];exact zh (RTW.out.fr (L:=[]) (B:=w5.heap.size) ((Fr.refl _ _ _).drewN _) RTW.out.lt (by simp)),zh (FX.out.drewN _)⟩
      obtain ⟨rfl,rfl⟩:=hcc
      have HNX := zh (show tabL (partC id nd9.rt ik (l.take (j + 1))) = updT (tabL (partC id nd9.rt ik (l.take j))) ((n0 : Int), (k0 : Int)) (x2, x3, x4, x5) by
       rw [HPS.out,HIN.out];simp only [Bool.and_self,if_true]
       rw [tabL_snoc,HPX.out,HVX.out])
      go_quiet (fail);have RT6:=zh (RTW.out.fr (L:=[]) (B:=w5.heap.size) ((Fr.refl _ _ _).drewN nq) RTW.out.lt (by simp));have FX6:=zh (FX.out.drewN nq);have BX6:=zh (BX.out.fr (L:=[]) (B:=w5.heap.size) ((Fr.refl _ _ _).drewN nq) BX.out.lt (by simp));clear BX FX RTW x0 x1 a0 a1 p5 BA5 hc1' hc2';generalize w5.drewN nq=w6 at *;go_upto_region 33 with fail;have n0':(0:Int)<=(n0:Int):=(by omega);have n1':(n0:Int) < 8:=(by omega);have k0':(0:Int)<=(k0:Int):=(by omega);have k1':(k0:Int) < 64:=(by omega)
      have SF := zh (fun (W : World) (hf : Fr w6.heap.size [gu] w6 W) => (by
       have b:=BX6.out.fr hf BX6.out.lt (by simp;omega)
       exact ⟨b.cell 0,b.cell 1,b.cell 2,b.cell 3,b.cell 4,b.cell 5⟩:W.cell? ⟨gx,0,none⟩=some (.int .i64 (n0:Int))/\W.cell? ⟨gx,1,none⟩=some (.int .i64 (k0:Int))/\W.cell? ⟨gx,2,none⟩=some (.int .i64 x2)/\W.cell? ⟨gx,3,none⟩=some (.int .i64 x3)/\W.cell? ⟨gx,4,none⟩=some (.int .i64 x4)/\W.cell? ⟨gx,5,none⟩=some (.int .i64 x5)))
      have FS:=zh (((((Fr.refl w6.heap.size [gu] w6).setCell (p:=⟨gu,n0 * 256+k0 * 4,none⟩) (.inr (by simp)) (.int .i64 x2)).setCell (p:=⟨gu,n0 * 256+k0 * 4+1,none⟩) (.inr (by simp)) (.int .i64 x3)).setCell (p:=⟨gu,n0 * 256+k0 * 4+2,none⟩) (.inr (by simp)) (.int .i64 x4)).setCell (p:=⟨gu,n0 * 256+k0 * 4+3,none⟩) (.inr (by simp)) (.int .i64 x5));have FS2:=zh (((((FX6.out.setCell (p:=⟨gu,n0 * 256+k0 * 4,none⟩) (.inl (by have:=HGU.out;show _<=gu;omega)) (.int .i64 x2)).setCell (p:=⟨gu,n0 * 256+k0 * 4+1,none⟩) (.inl (by have:=HGU.out;show _<=gu;omega)) (.int .i64 x3)).setCell (p:=⟨gu,n0 * 256+k0 * 4+2,none⟩) (.inl (by have:=HGU.out;show _<=gu;omega)) (.int .i64 x4)).setCell (p:=⟨gu,n0 * 256+k0 * 4+3,none⟩) (.inl (by have:=HGU.out;show _<=gu;omega)) (.int .i64 x5)).drew);have HPUT:=zh (RT6.out.put hn8 hk64 (x2,x3,x4,x5));obtain ⟨t0,t1,t2,t3⟩:=RT6.out.get hn8 hk64;have z0:=RT6.out.thaw (n0 * 256+k0 * 4);have z1:=RT6.out.thaw (n0 * 256+k0 * 4+1);have z2:=RT6.out.thaw (n0 * 256+k0 * 4+2);have z3:=RT6.out.thaw (n0 * 256+k0 * 4+3);have zl:=RT6.out.lt;obtain ⟨c0v,hc0v⟩:=nm (tabL (partC id nd9.rt ik (l.take j)) ((n0:Int),(k0:Int)));rw [<- hc0v] at t0 t1 t2 t3;clear hc0v;have t0':w6.drew.cell? ⟨gu,n0 * 256+k0 * 4,none⟩=some (.int .i64 c0v.1):=t0;have t1':w6.drew.cell? ⟨gu,n0 * 256+k0 * 4+1,none⟩=some (.int .i64 c0v.2.1):=t1;have t2':w6.drew.cell? ⟨gu,n0 * 256+k0 * 4+2,none⟩=some (.int .i64 c0v.2.2.1):=t2;have t3':w6.drew.cell? ⟨gu,n0 * 256+k0 * 4+3,none⟩=some (.int .i64 c0v.2.2.2):=t3;have z0':w6.drew.frozen? ⟨gu,n0 * 256+k0 * 4,none⟩=false:=z0;have z1':w6.drew.frozen? ⟨gu,n0 * 256+k0 * 4+1,none⟩=false:=z1;have z2':w6.drew.frozen? ⟨gu,n0 * 256+k0 * 4+2,none⟩=false:=z2;have z3':w6.drew.frozen? ⟨gu,n0 * 256+k0 * 4+3,none⟩=false:=z3;refine wp_region_held_drew (S:=fun W=>W.cell? ⟨gx,0,none⟩=some (.int .i64 (n0:Int))/\W.cell? ⟨gx,1,none⟩=some (.int .i64 (k0:Int))/\W.cell? ⟨gx,2,none⟩=some (.int .i64 x2)/\W.cell? ⟨gx,3,none⟩=some (.int .i64 x3)/\W.cell? ⟨gx,4,none⟩=some (.int .i64 x4)/\W.cell? ⟨gx,5,none⟩=some (.int .i64 x5)) (by kernel_rfl) (SF.out _ (Fr.refl _ _ _).drew) (fun hHeld => ?_);refine tk (i:=0) (oi:=⟨some 163,_,_,_,_,_⟩) (v:=?_) rfl ?_ hHeld ?_
      rotate_left
      · intro w hSw;(try dsimp only at hSw);go_simp;(try with_reducible rfl)
      simp only [Act.put,lPt];refine tk (i:=1) (oi:=⟨some 164,_,_,_,_,_⟩) (v:=?_) rfl ?_ hHeld ?_
      rotate_left
      · intro w hSw;(try dsimp only at hSw);go_simp;(try with_reducible rfl)
      simp only [Act.put,lPt];refine tk (i:=2) (oi:=⟨some 165,_,_,_,_,_⟩) (v:=?_) rfl ?_ hHeld ?_
      rotate_left
      · intro w hSw;(try dsimp only at hSw);go_simp;(try with_reducible rfl)
      simp only [Act.put,lPt];refine tk (i:=3) (oi:=⟨some 166,_,_,_,_,_⟩) (v:=?_) rfl ?_ hHeld ?_
      rotate_left
      · intro w hSw;(try dsimp only at hSw);go_simp;(try with_reducible rfl)
      simp only [Act.put,lPt];refine tk (i:=4) (oi:=⟨some 167,_,_,_,_,_⟩) (v:=?_) rfl ?_ hHeld ?_
      rotate_left
      · intro w hSw;(try dsimp only at hSw);go_simp;(try with_reducible rfl)
      simp only [Act.put,lPt];refine tk (i:=5) (oi:=⟨some 168,_,_,_,_,_⟩) (v:=?_) rfl ?_ hHeld ?_
      rotate_left
      · intro w hSw;(try dsimp only at hSw);go_simp;(try with_reducible rfl)
      simp only [Act.put,lPt];refine tk (i:=6) (oi:=⟨some 169,_,_,_,_,_⟩) (v:=?_) rfl ?_ hHeld ?_
      rotate_left
      · intro w hSw;(try dsimp only at hSw);go_simp;(try with_reducible rfl)
      simp only [Act.put,lPt];refine tk (i:=7) (oi:=⟨some 170,_,_,_,_,_⟩) (v:=?_) rfl ?_ hHeld ?_
      rotate_left
      · intro w hSw;(try dsimp only at hSw);go_simp;(try with_reducible rfl)
      simp only [Act.put,lPt];refine tk (i:=8) (oi:=⟨some 171,_,_,_,_,_⟩) (v:=?_) rfl ?_ hHeld ?_
      rotate_left
      · intro w hSw;(try dsimp only at hSw);go_simp;(try with_reducible rfl)
      simp only [Act.put,lPt];refine tk (i:=9) (oi:=⟨some 172,_,_,_,_,_⟩) (v:=?_) rfl ?_ hHeld ?_
      rotate_left
      · intro w hSw;(try dsimp only at hSw);go_simp;(try with_reducible rfl)
      simp only [Act.put,lPt];refine wpAnyH_ready (rs:=[10]) (by kernel_rfl) (by simp) ?_;refine AllReadyH.cons (o:=⟨none,_,_,_,_,_⟩) rfl (fun K hK => ?_) AllReadyH.nil;rw [if_pos (by rfl)];go_simp;refine hK.out _ _ (SF.out _ FS.out.drew) (fun hHeld => ?_);clear hK K
      try simp only [Act.put]
      refine wpAnyH_done (by kernel_rfl) ?_ _;have RT7:=zh (by rw [HNX.out];exact HPUT.out.fr (Fr.refl _ [] _).drew HPUT.out.lt (by simp):RT _ gu (tabL (partC id nd9.rt ik (l.take (j+1)))));clear hHeld t0 t1 t2 t3 t0' t1' t2' t3' z0 z1 z2 z3 z0' z1' z2' z3' zl HPUT;go_wp2_with fail;go_roundg (k - (j+1))
      case measure=>omega
      case rel=>exact ⟨j+1,hjk,rfl,by go_num,.inr ⟨_,rfl⟩,RT7,FS2⟩
     ·
      obtain rfl:j=k:=by omega
      have RTc:=zh (by have h9:=RTW.out;rw [List.take_of_length_le (by rw [<- HNE.out];exact Nat.le_refl _)] at h9;exact h9:RT wr gu (tabL (partC id nd9.rt ik l)));have TMc:=zh (TM9.out.fr0 FA.out);obtain ⟨S0,hS0⟩:=nm (task0 L nd9 (ik:Int) 1 l);rw [<- hS0] at TMc;have hid9:=findN_id HFN.out;obtain ⟨TT,hTT⟩:=nm (tabL (partC id nd9.rt ik l));rw [<- hTT] at RTc;have HST:=zh (show S0.T=TT by rw [hS0,hTT];exact task0_T hid9);have HSI:=zh (by rw [hS0];exact task0_says hid9:S0.nd.id=id/\S0.ix=(ik:Int)/\S0.lns=[]/\askE S0 1=(if nd9.kind=0 then 0 else 1));have HTOK:=zh (by rw [hTT];exact part_ok HX0.out.2.2.2:TOk TT);have F10:=zh (F9.out.nx FA.out);have BA10:=zh (BA9.out.fr FA.out BA9.out.lt (by simp));have HW:=zh (show w2.heap.size<=wr.heap.size from Nat.le_trans HCO.out.2.2.1 (Nat.le_trans F39.out.size FA.out.size));obtain ⟨kd,hkd⟩:=nm (nd9.kind);have HKD:=zh hkd;obtain ⟨AT,hAT⟩:=nm (allT TT);have HAT:=zh hAT;have HAL:=zh (show AT.length<=512 by rw [hAT,<- outA_all];exact outA_len TT 512);obtain ⟨e1,e2,_,_⟩:=HSI.out;have HID:=zh (by rw [<- e1,<- e2];exact taskId_any TMc.out:Calls Tryz.prog 35 #[.pointer (some ⟨g,0,none⟩)] wr fun e w'=>e=.returned (.tuple #[.int .i64 id,.int .i64 (ik:Int)])/\Fr wr.heap.size [] wr w');clear e1 e2;clear hS0 hid9 hTT hkd hAT RTW FA TM9 BA9;have HEN:=zh (fun W (hm:TaskM col3 W g S0 X)=>ents_of hm HST.out HTOK.out HAT.out);have HAA:=zh (fun W (hm:RT W gu TT)=>all_of hm HAT.out);have HLN:=zh (fun W (hm:TaskM col3 W g S0 X)=>lines_of hm HSI.out.2.2.1);go_wp2_with fail;refine HID.out.mono ?_;rintro e w11 ⟨rfl,f11⟩;have F11:=zh (F10.out.nx f11);have BA11:=zh (BA10.out.fr f11 BA10.out.lt (by simp));have TMc:=zh (TMc.out.fr0 f11);have RTc:=zh (RTc.out.fr f11 RTc.out.lt (by simp));have HW11:=zh (Nat.le_trans HW.out f11.size);clear f11 F10 BA10 HW HID;have FRW:=zh (fun W col' (hc:Cg (· = 1) col3 w11 col' W)=>(hc.fr HW11.out (fun q hq h1=>by have h2:=HCO.out.1 q hq;rw [h2] at h1;omega):Fr w2.heap.size [] w11 W))
      have SF := zh (fun W col' (hc : Cg (· = 1) col3 w11 col' W) => (by
       have f:=FRW.out W col' hc;have b:=BA11.out.fr f HCO.out.2.1 (by simp)
       exact ⟨b.cell 0,b.cell 1,by rw [HKD.out];exact (PN.out W (F11.out.trans (f.mono HCO.out.2.2.2 (by simp)))).1⟩:W.cell? ⟨gat,0,none⟩=some (.int .i64 id)/\W.cell? ⟨gat,1,none⟩=some (.int .i64 (ik:Int))/\W.cell? ⟨b1,o1+gi * 13+1,none⟩=some (.int .i64 kd)))
      by_cases hk0:kd=0
      ·
       have HAS:=zh (fun W (hm:TaskM col3 W g S0 X)=>ask_of (v:=0) hm (by rw [HSI.out.2.2.2,if_pos (by rw [<- HKD.out];exact hk0)]));subst hk0;go_upto_region 36 with fail;have INV:=zh (cgf (col:=col3) (· = 1) (Fr.refl w11.heap.size [] w11).drew);have TMc:=zh (TMc.out.fr0 (Fr.refl w11.heap.size [] w11).drew);have RTc:=zh (RTc.out.fr (Fr.refl w11.heap.size [] w11).drew RTc.out.lt (by simp));refine wp_region_held_drew (S:=fun W=>W.cell? ⟨gat,0,none⟩=some (.int .i64 id)/\W.cell? ⟨gat,1,none⟩=some (.int .i64 (ik:Int))/\W.cell? ⟨b1,o1+gi * 13+1,none⟩=some (.int .i64 0)) (by kernel_rfl) (SF.out _ _ INV.out) (fun hHeld => ?_);refine tk (i:=0) (oi:=⟨some 179,_,_,_,_,_⟩) (v:=?_) rfl ?_ hHeld ?_
       rotate_left
       · intro w hSw;(try dsimp only at hSw);go_simp;(try with_reducible rfl)
       simp only [Act.put,lPt];refine tk (i:=2) (oi:=⟨some 181,_,_,_,_,_⟩) (v:=?_) rfl ?_ hHeld ?_
       rotate_left
       · intro w hSw;(try dsimp only at hSw);go_simp;(try with_reducible rfl)
       simp only [Act.put,lPt];refine wpAnyH_ready (rs:=[1]) (by kernel_rfl) (by simp) ?_;refine AllReadyH.cons (o:=⟨some 180,_,_,_,_,_⟩) rfl (fun K hK => ?_) AllReadyH.nil;rw [if_pos (by rfl)];go_simp;refine (HEN.out _ TMc.out).mono ?_;rintro e w12 ⟨A12,c12,rfl,hr12,_,_,f12⟩;have E12:=zh hr12;have INV:=zh (INV.out.trans (cgf (· = 1) f12));have TMc:=zh (TMc.out.fr0 f12);have RTc:=zh (RTc.out.fr f12 RTc.out.lt (by simp));clear hr12 f12;refine hK.out _ _ (SF.out _ _ INV.out) (fun hHeld => ?_);clear hK K
       try simp only [Act.put,lPt]
       refine wpAnyH_ready (rs:=[3]) (by kernel_rfl) (by simp) ?_;refine AllReadyH.cons (o:=⟨some 182,_,_,_,_,_⟩) rfl (fun K hK => ?_) AllReadyH.nil;rw [if_pos (by rfl)];go_simp;refine (HAA.out _ RTc.out).mono ?_;rintro e w13 ⟨A13,n13,c13,rfl,rfl,hown,f13⟩;have E13:=zh (Reads.of_own hown);have INV:=zh (INV.out.trans (cgf (· = 1) f13));have TMc:=zh (TMc.out.fr0 f13);have RTc:=zh (RTc.out.fr f13 RTc.out.lt (by simp));have E12:=zh ((E12.out.fr f13 (Nat.le_refl _) (by simp)).more f13.size);clear hown f13;refine hK.out _ _ (SF.out _ _ INV.out) (fun hHeld => ?_);clear hK K
       try simp only [Act.put,lPt]
       refine wpAnyH_ready (rs:=[4]) (by kernel_rfl) (by simp) ?_;refine AllReadyH.cons (o:=⟨some 183,_,_,_,_,_⟩) rfl (fun K hK => ?_) AllReadyH.nil;rw [if_pos (by rfl)];go_simp;refine (same_yes E12.out E13.out (by have:=HAL.out;omega)).mono ?_;rintro e w14 ⟨rfl,f14⟩;have INV:=zh (INV.out.trans (cgf (· = 1) f14));have TMc:=zh (TMc.out.fr0 f14);clear f14 E12 E13 RTc;refine hK.out _ _ (SF.out _ _ INV.out) (fun hHeld => ?_);clear hK K
       try simp only [Act.put,lPt]
       refine tk (i:=5) (oi:=⟨some 184,_,_,_,_,_⟩) (v:=?_) rfl ?_ hHeld ?_
       rotate_left
       · intro w hSw;(try dsimp only at hSw);go_simp;(try with_reducible rfl)
       simp only [Act.put,lPt];refine tk (i:=6) (oi:=⟨some 185,_,_,_,_,_⟩) (v:=?_) rfl ?_ hHeld ?_
       rotate_left
       · intro w hSw;(try dsimp only at hSw);go_simp;(try with_reducible rfl)
       simp only [Act.put,lPt];refine tk (i:=7) (oi:=⟨some 186,_,_,_,_,_⟩) (v:=?_) rfl ?_ hHeld ?_
       rotate_left
       · intro w hSw;(try dsimp only at hSw);go_simp;(try with_reducible rfl)
       simp only [Act.put,lPt];refine tk (i:=8) (oi:=⟨some 187,_,_,_,_,_⟩) (v:=?_) rfl ?_ hHeld ?_
       rotate_left
       · intro w hSw;(try dsimp only at hSw);go_simp;(try with_reducible rfl)
       simp only [Act.put,lPt];refine tk (i:=9) (oi:=⟨some 188,_,_,_,_,_⟩) (v:=?_) rfl ?_ hHeld ?_
       rotate_left
       · intro w hSw;(try dsimp only at hSw);go_simp;(try with_reducible rfl)
       simp only [Act.put,lPt];refine tk (i:=10) (oi:=⟨some 189,_,_,_,_,_⟩) (v:=?_) rfl ?_ hHeld ?_
       rotate_left
       · intro w hSw;(try dsimp only at hSw);go_simp;(try with_reducible rfl)
       simp only [Act.put,lPt];refine tk (i:=11) (oi:=⟨some 190,_,_,_,_,_⟩) (v:=?_) rfl ?_ hHeld ?_
       rotate_left
       · intro w hSw;(try dsimp only at hSw);go_simp;(try with_reducible rfl)
       simp only [Act.put,lPt];refine tk (i:=12) (oi:=⟨some 191,_,_,_,_,_⟩) (v:=?_) rfl ?_ hHeld ?_
       rotate_left
       · intro w hSw;(try dsimp only at hSw);go_simp;(try with_reducible rfl)
       simp only [Act.put,lPt];refine tk (i:=13) (oi:=⟨some 192,_,_,_,_,_⟩) (v:=?_) rfl ?_ hHeld ?_
       rotate_left
       · intro w hSw;(try dsimp only at hSw);go_simp;(try with_reducible rfl)
       simp only [Act.put,lPt];refine tk (i:=14) (oi:=⟨some 193,_,_,_,_,_⟩) (v:=?_) rfl ?_ hHeld ?_
       rotate_left
       · intro w hSw;(try dsimp only at hSw);go_simp;(try with_reducible rfl)
       simp only [Act.put,lPt];refine tk (i:=15) (oi:=⟨some 194,_,_,_,_,_⟩) (v:=?_) rfl ?_ hHeld ?_
       rotate_left
       · intro w hSw;(try dsimp only at hSw);go_simp;(try with_reducible rfl)
       simp only [Act.put,lPt];refine tk (i:=16) (oi:=⟨some 195,_,_,_,_,_⟩) (v:=?_) rfl ?_ hHeld ?_
       rotate_left
       · intro w hSw;(try dsimp only at hSw);go_simp;(try with_reducible rfl)
       simp only [Act.put,lPt];refine tk (i:=17) (oi:=⟨some 196,_,_,_,_,_⟩) (v:=?_) rfl ?_ hHeld ?_
       rotate_left
       · intro w hSw;(try dsimp only at hSw);go_simp;(try with_reducible rfl)
       simp only [Act.put,lPt];refine tk (i:=18) (oi:=⟨some 197,_,_,_,_,_⟩) (v:=?_) rfl ?_ hHeld ?_
       rotate_left
       · intro w hSw;(try dsimp only at hSw);go_simp;(try with_reducible rfl)
       simp only [Act.put,lPt];refine wpAnyH_ready (rs:=[19]) (by kernel_rfl) (by simp) ?_;refine AllReadyH.cons (o:=⟨some 198,_,_,_,_,_⟩) rfl (fun K hK => ?_) AllReadyH.nil;rw [if_pos (by rfl)];go_simp;refine (HLN.out _ TMc.out).mono ?_;rintro e w15 ⟨A15,c15,rfl,f15⟩;have INV:=zh (INV.out.trans (cgf (· = 1) f15));have TMc:=zh (TMc.out.fr0 f15);clear f15;refine hK.out _ _ (SF.out _ _ INV.out) (fun hHeld => ?_);clear hK K
       try simp only [Act.put,lPt]
       refine tk (i:=20) (oi:=⟨some 199,_,_,_,_,_⟩) (v:=?_) rfl ?_ hHeld ?_
       rotate_left
       · intro w hSw;(try dsimp only at hSw);go_simp;(try with_reducible rfl)
       simp only [Act.put,lPt];refine tk (i:=21) (oi:=⟨some 200,_,_,_,_,_⟩) (v:=?_) rfl ?_ hHeld ?_
       rotate_left
       · intro w hSw;(try dsimp only at hSw);go_simp;(try with_reducible rfl)
       simp only [Act.put,lPt];refine tk (i:=22) (oi:=⟨some 201,_,_,_,_,_⟩) (v:=?_) rfl ?_ hHeld ?_
       rotate_left
       · intro w hSw;(try dsimp only at hSw);go_simp;(try with_reducible rfl)
       simp only [Act.put,lPt];refine tk (i:=23) (oi:=⟨some 202,_,_,_,_,_⟩) (v:=?_) rfl ?_ hHeld ?_
       rotate_left
       · intro w hSw;(try dsimp only at hSw);go_simp;(try with_reducible rfl)
       simp only [Act.put,lPt];refine tk (i:=24) (oi:=⟨some 203,_,_,_,_,_⟩) (v:=?_) rfl ?_ hHeld ?_
       rotate_left
       · intro w hSw;(try dsimp only at hSw);go_simp;(try with_reducible rfl)
       simp only [Act.put,lPt];refine tk (i:=27) (oi:=⟨some 206,_,_,_,_,_⟩) (v:=?_) rfl ?_ hHeld ?_
       rotate_left
       · intro w hSw;(try dsimp only at hSw);go_simp;(try with_reducible rfl)
       simp only [Act.put,lPt];refine tk (i:=28) (oi:=⟨some 207,_,_,_,_,_⟩) (v:=?_) rfl ?_ hHeld ?_
       rotate_left
       · intro w hSw;(try dsimp only at hSw);go_simp;(try with_reducible rfl)
       simp only [Act.put,lPt];refine tk (i:=29) (oi:=⟨some 208,_,_,_,_,_⟩) (v:=?_) rfl ?_ hHeld ?_
       rotate_left
       · intro w hSw;(try dsimp only at hSw);go_simp;(try with_reducible rfl)
       simp only [Act.put,lPt];refine tk (i:=30) (oi:=⟨some 209,_,_,_,_,_⟩) (v:=?_) rfl ?_ hHeld ?_
       rotate_left
       · intro w hSw;(try dsimp only at hSw);go_simp;(try with_reducible rfl)
       simp only [Act.put,lPt];refine tk (i:=31) (oi:=⟨some 210,_,_,_,_,_⟩) (v:=?_) rfl ?_ hHeld ?_
       rotate_left
       · intro w hSw;(try dsimp only at hSw);go_simp;(try with_reducible rfl)
       simp only [Act.put,lPt];refine tk (i:=32) (oi:=⟨some 211,_,_,_,_,_⟩) (v:=?_) rfl ?_ hHeld ?_
       rotate_left
       · intro w hSw;(try dsimp only at hSw);go_simp;(try with_reducible rfl)
       simp only [Act.put,lPt];refine wpAnyH_ready (rs:=[25]) (by kernel_rfl) (by simp) ?_;refine AllReadyH.cons (o:=⟨some 204,_,_,_,_,_⟩) rfl (fun K hK => ?_) AllReadyH.nil;rw [if_pos (by rfl)];go_simp;refine (HAS.out _ TMc.out).mono ?_;rintro e w16 ⟨rfl,k16⟩;have INV:=zh (INV.out.trans k16);clear k16 TMc;refine hK.out _ _ (SF.out _ _ INV.out) (fun hHeld => ?_);clear hK K
       try simp only [Act.put,lPt]
       refine tk (i:=26) (oi:=⟨some 205,_,_,_,_,_⟩) (v:=?_) rfl ?_ hHeld ?_
       rotate_left
       · intro w hSw;(try dsimp only at hSw);go_simp;(try with_reducible rfl)
       simp only [Act.put,lPt];refine tk (i:=33) (oi:=⟨some 212,_,_,_,_,_⟩) (v:=?_) rfl ?_ hHeld ?_
       rotate_left
       · intro w hSw;(try dsimp only at hSw);go_simp;(try with_reducible rfl)
       simp only [Act.put,lPt];refine tk (i:=34) (oi:=⟨some 213,_,_,_,_,_⟩) (v:=?_) rfl ?_ hHeld ?_
       rotate_left
       · intro w hSw;(try dsimp only at hSw);go_simp;(try with_reducible rfl)
       simp only [Act.put,lPt];refine tk (i:=35) (oi:=⟨some 214,_,_,_,_,_⟩) (v:=?_) rfl ?_ hHeld ?_
       rotate_left
       · intro w hSw;(try dsimp only at hSw);go_simp;(try with_reducible rfl)
       simp only [Act.put,lPt];refine wpAnyH_ready (rs:=[36]) (by kernel_rfl) (by simp) ?_;refine AllReadyH.cons (o:=⟨some 215,_,_,_,_,_⟩) rfl (fun K hK => ?_) AllReadyH.nil;rw [if_pos (by rfl)];go_simp;refine (channel_1231 _).mono ?_;rintro e w17 ⟨rfl,rfl⟩;refine hK.out _ _ (SF.out _ _ INV.out) (fun hHeld => ?_);clear hK K
       try simp only [Act.put,lPt]
       refine tk (i:=37) (oi:=⟨some 216,_,_,_,_,_⟩) (v:=?_) rfl ?_ hHeld ?_
       rotate_left
       · intro w hSw;(try dsimp only at hSw);go_simp;(try with_reducible rfl)
       simp only [Act.put,lPt];refine tk (i:=38) (oi:=⟨some 217,_,_,_,_,_⟩) (v:=?_) rfl ?_ hHeld ?_
       rotate_left
       · intro w hSw;(try dsimp only at hSw);go_simp;(try with_reducible rfl)
       simp only [Act.put,lPt];refine tk (i:=39) (oi:=⟨some 6,_,_,_,_,_⟩) (v:=?_) rfl ?_ hHeld ?_
       rotate_left
       · intro w hSw;(try dsimp only at hSw);go_simp;(try with_reducible rfl)
       simp only [Act.put,lPt];refine wpAnyH_done (by kernel_rfl) ?_ _;have FE:=zh (F11.out.trans ((FRW.out _ _ INV.out).mono HCO.out.2.2.2 (by simp)));clear hHeld;go_wp2_with fail;go_ret;exact ⟨rfl,FE.out.below⟩
      ·
       have HAS:=zh (fun W (hm:TaskM col3 W g S0 X)=>ask_of (v:=1) hm (by rw [HSI.out.2.2.2,if_neg (by rw [<- HKD.out];exact hk0)]));have hkb:(kd == 0)=false:=(by rw [beq_eq_false_iff_ne];exact hk0);clear hk0;go_upto_region 36 with fail;have INV:=zh (cgf (col:=col3) (· = 1) (Fr.refl w11.heap.size [] w11).drew);have TMc:=zh (TMc.out.fr0 (Fr.refl w11.heap.size [] w11).drew);have RTc:=zh (RTc.out.fr (Fr.refl w11.heap.size [] w11).drew RTc.out.lt (by simp));refine wp_region_held_drew (S:=fun W=>W.cell? ⟨gat,0,none⟩=some (.int .i64 id)/\W.cell? ⟨gat,1,none⟩=some (.int .i64 (ik:Int))/\W.cell? ⟨b1,o1+gi * 13+1,none⟩=some (.int .i64 kd)) (by kernel_rfl) (SF.out _ _ INV.out) (fun hHeld => ?_);refine tk (i:=0) (oi:=⟨some 179,_,_,_,_,_⟩) (v:=?_) rfl ?_ hHeld ?_
       rotate_left
       · intro w hSw;(try dsimp only at hSw);go_simp;(try with_reducible rfl)
       simp only [Act.put,lPt];refine tk (i:=2) (oi:=⟨some 181,_,_,_,_,_⟩) (v:=?_) rfl ?_ hHeld ?_
       rotate_left
       · intro w hSw;(try dsimp only at hSw);go_simp;(try with_reducible rfl)
       simp only [Act.put,lPt];refine wpAnyH_ready (rs:=[1]) (by kernel_rfl) (by simp) ?_;refine AllReadyH.cons (o:=⟨some 180,_,_,_,_,_⟩) rfl (fun K hK => ?_) AllReadyH.nil;rw [if_pos (by rfl)];go_simp;refine (HEN.out _ TMc.out).mono ?_;rintro e w12 ⟨A12,c12,rfl,hr12,_,_,f12⟩;have E12:=zh hr12;have INV:=zh (INV.out.trans (cgf (· = 1) f12));have TMc:=zh (TMc.out.fr0 f12);have RTc:=zh (RTc.out.fr f12 RTc.out.lt (by simp));clear hr12 f12;refine hK.out _ _ (SF.out _ _ INV.out) (fun hHeld => ?_);clear hK K
       try simp only [Act.put,lPt]
       refine wpAnyH_ready (rs:=[3]) (by kernel_rfl) (by simp) ?_;refine AllReadyH.cons (o:=⟨some 182,_,_,_,_,_⟩) rfl (fun K hK => ?_) AllReadyH.nil;rw [if_pos (by rfl)];go_simp;refine (HAA.out _ RTc.out).mono ?_;rintro e w13 ⟨A13,n13,c13,rfl,rfl,hown,f13⟩;have E13:=zh (Reads.of_own hown);have INV:=zh (INV.out.trans (cgf (· = 1) f13));have TMc:=zh (TMc.out.fr0 f13);have RTc:=zh (RTc.out.fr f13 RTc.out.lt (by simp));have E12:=zh ((E12.out.fr f13 (Nat.le_refl _) (by simp)).more f13.size);clear hown f13;refine hK.out _ _ (SF.out _ _ INV.out) (fun hHeld => ?_);clear hK K
       try simp only [Act.put,lPt]
       refine wpAnyH_ready (rs:=[4]) (by kernel_rfl) (by simp) ?_;refine AllReadyH.cons (o:=⟨some 183,_,_,_,_,_⟩) rfl (fun K hK => ?_) AllReadyH.nil;rw [if_pos (by rfl)];go_simp;refine (same_yes E12.out E13.out (by have:=HAL.out;omega)).mono ?_;rintro e w14 ⟨rfl,f14⟩;have INV:=zh (INV.out.trans (cgf (· = 1) f14));have TMc:=zh (TMc.out.fr0 f14);clear f14 E12 E13 RTc;refine hK.out _ _ (SF.out _ _ INV.out) (fun hHeld => ?_);clear hK K
       try simp only [Act.put,lPt]
       refine tk (i:=5) (oi:=⟨some 184,_,_,_,_,_⟩) (v:=?_) rfl ?_ hHeld ?_
       rotate_left
       · intro w hSw;(try dsimp only at hSw);go_simp;(try with_reducible rfl)
       simp only [Act.put,lPt];refine tk (i:=6) (oi:=⟨some 185,_,_,_,_,_⟩) (v:=?_) rfl ?_ hHeld ?_
       rotate_left
       · intro w hSw;(try dsimp only at hSw);go_simp;(try with_reducible rfl)
       simp only [Act.put,lPt];refine tk (i:=7) (oi:=⟨some 186,_,_,_,_,_⟩) (v:=?_) rfl ?_ hHeld ?_
       rotate_left
       · intro w hSw;(try dsimp only at hSw);go_simp;(try with_reducible rfl)
       simp only [Act.put,lPt];refine tk (i:=8) (oi:=⟨some 187,_,_,_,_,_⟩) (v:=?_) rfl ?_ hHeld ?_
       rotate_left
       · intro w hSw;(try dsimp only at hSw);go_simp;(try with_reducible rfl)
       simp only [Act.put,lPt];refine tk (i:=9) (oi:=⟨some 188,_,_,_,_,_⟩) (v:=?_) rfl ?_ hHeld ?_
       rotate_left
       · intro w hSw;(try dsimp only at hSw);go_simp;(try with_reducible rfl)
       simp only [Act.put,lPt];refine tk (i:=10) (oi:=⟨some 189,_,_,_,_,_⟩) (v:=?_) rfl ?_ hHeld ?_
       rotate_left
       · intro w hSw;(try dsimp only at hSw);go_simp;(try with_reducible rfl)
       simp only [Act.put,lPt];refine tk (i:=11) (oi:=⟨some 190,_,_,_,_,_⟩) (v:=?_) rfl ?_ hHeld ?_
       rotate_left
       · intro w hSw;(try dsimp only at hSw);go_simp;(try with_reducible rfl)
       simp only [Act.put,lPt];refine tk (i:=12) (oi:=⟨some 191,_,_,_,_,_⟩) (v:=?_) rfl ?_ hHeld ?_
       rotate_left
       · intro w hSw;(try dsimp only at hSw);go_simp;(try with_reducible rfl)
       simp only [Act.put,lPt];refine tk (i:=13) (oi:=⟨some 192,_,_,_,_,_⟩) (v:=?_) rfl ?_ hHeld ?_
       rotate_left
       · intro w hSw;(try dsimp only at hSw);go_simp;(try with_reducible rfl)
       simp only [Act.put,lPt];refine tk (i:=14) (oi:=⟨some 193,_,_,_,_,_⟩) (v:=?_) rfl ?_ hHeld ?_
       rotate_left
       · intro w hSw;(try dsimp only at hSw);go_simp;(try with_reducible rfl)
       simp only [Act.put,lPt];refine tk (i:=15) (oi:=⟨some 194,_,_,_,_,_⟩) (v:=?_) rfl ?_ hHeld ?_
       rotate_left
       · intro w hSw;(try dsimp only at hSw);go_simp;(try with_reducible rfl)
       simp only [Act.put,lPt];refine tk (i:=16) (oi:=⟨some 195,_,_,_,_,_⟩) (v:=?_) rfl ?_ hHeld ?_
       rotate_left
       · intro w hSw;(try dsimp only at hSw);go_simp;(try with_reducible rfl)
       simp only [Act.put,lPt];refine tk (i:=17) (oi:=⟨some 196,_,_,_,_,_⟩) (v:=?_) rfl ?_ hHeld ?_
       rotate_left
       · intro w hSw;(try dsimp only at hSw);go_simp;(try with_reducible rfl)
       simp only [Act.put,lPt];refine tk (i:=18) (oi:=⟨some 197,_,_,_,_,_⟩) (v:=?_) rfl ?_ hHeld ?_
       rotate_left
       · intro w hSw;(try dsimp only at hSw);go_simp;(try with_reducible rfl)
       simp only [Act.put,lPt];refine wpAnyH_ready (rs:=[19]) (by kernel_rfl) (by simp) ?_;refine AllReadyH.cons (o:=⟨some 198,_,_,_,_,_⟩) rfl (fun K hK => ?_) AllReadyH.nil;rw [if_pos (by rfl)];go_simp;refine (HLN.out _ TMc.out).mono ?_;rintro e w15 ⟨A15,c15,rfl,f15⟩;have INV:=zh (INV.out.trans (cgf (· = 1) f15));have TMc:=zh (TMc.out.fr0 f15);clear f15;refine hK.out _ _ (SF.out _ _ INV.out) (fun hHeld => ?_);clear hK K
       try simp only [Act.put,lPt]
       refine tk (i:=20) (oi:=⟨some 199,_,_,_,_,_⟩) (v:=?_) rfl ?_ hHeld ?_
       rotate_left
       · intro w hSw;(try dsimp only at hSw);go_simp;(try with_reducible rfl)
       simp only [Act.put,lPt];refine tk (i:=21) (oi:=⟨some 200,_,_,_,_,_⟩) (v:=?_) rfl ?_ hHeld ?_
       rotate_left
       · intro w hSw;(try dsimp only at hSw);go_simp;(try with_reducible rfl)
       simp only [Act.put,lPt];refine tk (i:=22) (oi:=⟨some 201,_,_,_,_,_⟩) (v:=?_) rfl ?_ hHeld ?_
       rotate_left
       · intro w hSw;(try dsimp only at hSw);go_simp;(try with_reducible rfl)
       simp only [Act.put,lPt];refine tk (i:=23) (oi:=⟨some 202,_,_,_,_,_⟩) (v:=?_) rfl ?_ hHeld ?_
       rotate_left
       · intro w hSw;(try dsimp only at hSw);go_simp;(try with_reducible rfl)
       simp only [Act.put,lPt];refine tk (i:=24) (oi:=⟨some 203,_,_,_,_,_⟩) (v:=?_) rfl ?_ hHeld ?_
       rotate_left
       · intro w hSw;(try dsimp only at hSw);go_simp;(try with_reducible rfl)
       simp only [Act.put,lPt];refine tk (i:=27) (oi:=⟨some 206,_,_,_,_,_⟩) (v:=?_) rfl ?_ hHeld ?_
       rotate_left
       · intro w hSw;(try dsimp only at hSw);go_simp;(try with_reducible rfl)
       simp only [Act.put,lPt];refine tk (i:=28) (oi:=⟨some 207,_,_,_,_,_⟩) (v:=?_) rfl ?_ hHeld ?_
       rotate_left
       · intro w hSw;(try dsimp only at hSw);go_simp;(try with_reducible rfl)
       simp only [Act.put,lPt];refine tk (i:=29) (oi:=⟨some 208,_,_,_,_,_⟩) (v:=?_) rfl ?_ hHeld ?_
       rotate_left
       · intro w hSw;(try dsimp only at hSw);go_simp;(try with_reducible rfl)
       simp only [Act.put,lPt];refine tk (i:=30) (oi:=⟨some 209,_,_,_,_,_⟩) (v:=?_) rfl ?_ hHeld ?_
       rotate_left
       · intro w hSw;(try dsimp only at hSw);go_simp;(try with_reducible rfl)
       simp only [Act.put,lPt];refine tk (i:=31) (oi:=⟨some 210,_,_,_,_,_⟩) (v:=?_) rfl ?_ hHeld ?_
       rotate_left
       · intro w hSw;(try dsimp only at hSw);go_simp;(try with_reducible rfl)
       simp only [Act.put,lPt];refine tk (i:=32) (oi:=⟨some 211,_,_,_,_,_⟩) (v:=?_) rfl ?_ hHeld ?_
       rotate_left
       · intro w hSw;(try dsimp only at hSw);go_simp;(try with_reducible rfl)
       simp only [Act.put,lPt];refine wpAnyH_ready (rs:=[25]) (by kernel_rfl) (by simp) ?_;refine AllReadyH.cons (o:=⟨some 204,_,_,_,_,_⟩) rfl (fun K hK => ?_) AllReadyH.nil;rw [if_pos (by rfl)];go_simp;refine (HAS.out _ TMc.out).mono ?_;rintro e w16 ⟨rfl,k16⟩;have INV:=zh (INV.out.trans k16);clear k16 TMc;refine hK.out _ _ (SF.out _ _ INV.out) (fun hHeld => ?_);clear hK K
       try simp only [Act.put,lPt]
       refine tk (i:=26) (oi:=⟨some 205,_,_,_,_,_⟩) (v:=?_) rfl ?_ hHeld ?_
       rotate_left
       · intro w hSw;(try dsimp only at hSw);go_simp;(try with_reducible rfl)
       simp only [Act.put,lPt];refine tk (i:=33) (oi:=⟨some 212,_,_,_,_,_⟩) (v:=?_) rfl ?_ hHeld ?_
       rotate_left
       · intro w hSw;(try dsimp only at hSw);go_simp;(try with_reducible rfl)
       simp only [Act.put,lPt];refine tk (i:=34) (oi:=⟨some 213,_,_,_,_,_⟩) (v:=?_) rfl ?_ hHeld ?_
       rotate_left
       · intro w hSw;(try dsimp only at hSw);go_simp;(try with_reducible rfl)
       simp only [Act.put,lPt];refine tk (i:=35) (oi:=⟨some 214,_,_,_,_,_⟩) (v:=?_) rfl ?_ hHeld ?_
       rotate_left
       · intro w hSw;(try dsimp only at hSw);go_simp;(try with_reducible rfl)
       simp only [Act.put,lPt];refine wpAnyH_ready (rs:=[36]) (by kernel_rfl) (by simp) ?_;refine AllReadyH.cons (o:=⟨some 215,_,_,_,_,_⟩) rfl (fun K hK => ?_) AllReadyH.nil;rw [if_pos (by rfl)];go_simp;refine (channel_1231 _).mono ?_;rintro e w17 ⟨rfl,rfl⟩;refine hK.out _ _ (SF.out _ _ INV.out) (fun hHeld => ?_);clear hK K
       try simp only [Act.put,lPt]
       refine tk (i:=37) (oi:=⟨some 216,_,_,_,_,_⟩) (v:=?_) rfl ?_ hHeld ?_
       rotate_left
       · intro w hSw;(try dsimp only at hSw);go_simp;(try with_reducible rfl)
       simp only [Act.put,lPt];refine tk (i:=38) (oi:=⟨some 217,_,_,_,_,_⟩) (v:=?_) rfl ?_ hHeld ?_
       rotate_left
       · intro w hSw;(try dsimp only at hSw);go_simp;(try with_reducible rfl)
       simp only [Act.put,lPt];refine tk (i:=39) (oi:=⟨some 6,_,_,_,_,_⟩) (v:=?_) rfl ?_ hHeld ?_
       rotate_left
       · intro w hSw;(try dsimp only at hSw);go_simp;(try with_reducible rfl)
       simp only [Act.put,lPt];refine wpAnyH_done (by kernel_rfl) ?_ _;have FE:=zh (F11.out.trans ((FRW.out _ _ INV.out).mono HCO.out.2.2.2 (by simp)));clear hHeld;go_wp2_with fail;go_ret;exact ⟨rfl,FE.out.below⟩
end Go.Proofs.YtgblfflikgnfpaaGreat
