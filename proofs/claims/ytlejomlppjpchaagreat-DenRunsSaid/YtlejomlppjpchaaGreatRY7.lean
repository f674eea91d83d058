/- Texts merged into one, for the number of files a claim may have: IMap, SetL, Ref4, TriMap, CheckDead, TellA, TellC. -/
import Derived.Test.YtlejomlppjpchaaGreatRY1
import Derived.Test.YtlejomlppjpchaaGreatRY5
import Derived.Test.YtlejomlppjpchaaGreatRows
namespace Go.Proofs.YtlejomlppjpchaaGreat
open Go.RowKit Go.Fb
set_option maxRecDepth 100000
set_option maxHeartbeats 16000000
set_option linter.unusedVariables false
def dV:Value:=.bool false
def pzI (p:Int):List Int->Nat->Option Nat
 | [],_=>none
 | x :: l,i=>if p=x then some i else pzI p l (i+1)
theorem pzI_some {p:Int}:∀ {K:List Int} {i j:Nat},pzI p K i=some j->i<=j/\K[j - i]?=some p
 | [],i,j,h=>by simp [pzI] at h
 | x :: l,i,j,h=>by
  unfold pzI at h
  split at h
  ·
   rename_i hp;injection h with h
   subst h;subst hp;exact ⟨Nat.le_refl _,by simp⟩
  · obtain ⟨a,b⟩:=pzI_some h;refine ⟨by omega,?_⟩;rw [show j - i=(j - (i+1))+1 by omega,List.getElem?_cons_succ];exact b
theorem pzI_none {p:Int}:∀ {K:List Int} {i:Nat},pzI p K i=none->p ∉ K
 | [],_,_=>by simp
 | x :: l,i,h=>by
  unfold pzI at h
  split at h
  · cases h
  ·
   rename_i hp;rw [List.mem_cons];rintro (e | e)
   · exact hp e
   · exact pzI_none h e
structure IEs (es:Array MapEntry) (clock:Nat) (K:List Int) (T:Int->Option Value):Prop where
 old:∀ x ∈ es.toList,x.born < clock
 born:(es.toList.map (·.born)).Nodup
 nd:K.Nodup
 mem:∀ p,p ∈ K ↔ T p ≠ none
 kv:es.toList.map (fun e=>(e.key,e.val))=K.map (fun p=>(Value.int .i64 p,(T p).getD dV))
theorem inow (T:Int->Option Value) (x:Int):∀ (es:List MapEntry) (K:List Int) (i:Nat),es.map (fun e=>(e.key,e.val))=K.map (fun p=>(Value.int .i64 p,(T p).getD dV)) ->
  Instr.findNow (.int .i64) (.int .i64 x) es i=some (match pzI x K i with | none=>none | some j=>some (j,(T x).getD dV))
 | [],[],_,_=>rfl
 | [],_ :: _,_,h=>by simp at h
 | e :: es,[],_,h=>by simp at h
 | e :: es,k :: ks,i,h=>by
  simp only [List.map_cons,List.cons.injEq,Prod.mk.injEq] at h;obtain ⟨⟨h1,h2⟩,h3⟩:=h;unfold pzI
  by_cases c:x=k
  · rw [if_pos c];subst c;simp [Instr.findNow,h1,Instr.sameNow,h2]
  · rw [if_neg c];have hc:(x == k)=false:=(by rw [beq_eq_false_iff_ne];exact c);simp [Instr.findNow,h1,Instr.sameNow,hc,inow T x es ks (i+1) h3]
def IMap (w:World) (r:Nat) (T:Int->Option Value):Prop:=∃ K es clock,w.heap[r]?=some (.map es clock)/\IEs es clock K T
def setI (w:World) (r:Nat) (o:Obj):World:={ w with heap:=w.heap.setIfInBounds r o }
theorem setI_fr (w:World) (r:Nat) (o:Obj):Fr w.heap.size [r] w (setI w r o) :=
 ⟨rfl, rfl, rfl, by simp [setI], fun k _ hk => by
  have:r ≠ k:=fun h=>hk (by simp [h])
  simp [setI,this]⟩
theorem setI_new {w:World} {r:Nat} (h:r < w.heap.size) (o:Obj):(setI w r o).heap[r]?=some o:=by simp [setI,h]
theorem setI_size (w:World) (r:Nat) (o:Obj):(setI w r o).heap.size=w.heap.size:=by simp [setI]
def updI (T:Int->Option Value) (x:Int) (v:Value):Int->Option Value:=fun q=>if q=x then some v else T q
section
variable {w w':World} {r:Nat} {T:Int->Option Value}
theorem IMap.lt (h:IMap w r T):r < w.heap.size:=by
 obtain ⟨K,es,clock,hb,_⟩:=h
 rcases Nat.lt_or_ge r w.heap.size with h | h
 · exact h
 · rw [Array.getElem?_eq_none h] at hb;cases hb
theorem IMap.new (w:World):IMap (w.alloc (.map #[] 0)) w.heap.size (fun _=>none):=⟨[],#[],0,heap_alloc_new w _,by simp,by simp,List.nodup_nil,by simp,rfl⟩
theorem IMap.fr {B:Nat} {L:List Nat} (h:IMap w r T) (hf:Fr B L w w') (h1:r < B) (h2:r ∉ L):IMap w' r T:=by
 obtain ⟨K,es,clock,hb,he⟩:=h;exact ⟨K,es,clock,(hf.block r h1 h2).trans hb,he⟩
theorem ikey (b:Bool) (x:Int) (w:World):(Instr.checkKey b 10000 3 (.int .i64 x)).run Tryz.prog w=.ok () w :=
 MapKept.run_checkKey (k:=.int .i64 x) Tryz.underlying3 (by simp [MapKept.IsKey]) b 9999
theorem istays (x:Int) (w:World):(Instr.keyThatStays (.int .i64 x) (.int .i64 x)).run Tryz.prog w=.ok (.int .i64 x) w:=by
 have h:Instr.sameBits 10000 (.int .i64 x) (.int .i64 x)=true:=by
  rw [show (10000:Nat)=9999+1 from rfl];simp [Instr.sameBits]
 unfold Instr.keyThatStays;rw [if_pos h];rfl
theorem IMap.look {mt vt:TypeId} {z:Value} (hu:Tryz.prog.underlying mt=some (TypeDesc.map 3 vt)) (hz:∀ u,(zeroValue vt).run Tryz.prog u=.ok z u) (h:IMap w r T) (x:Int) :
  (Instr.lookup mt (.map (some r)) (.int .i64 x) false).run Tryz.prog w=.ok ((T x).getD z) w:=by
 obtain ⟨K,es,clock,hb,he⟩:=h;have hc:=fun b=>ikey b x w;have hf:=MapKept.run_findKey (P:=Tryz.prog) (w:=w) Tryz.underlying3 (inow T x es.toList K 0 he.kv)
 cases hm:pzI x K 0 with
 | none =>
  rw [hm] at hf;have hx:=pzI_none hm;have hT:T x=none:=Classical.byContradiction fun c=>hx ((he.mem x).2 c);rw [hT];simp [Instr.lookup,run_underlying hu,MapKept.run_getObj_map hb,hc,hf,hz,Result.andThen]
 | some y =>
  rw [hm] at hf;obtain ⟨_,g2⟩:=pzI_some hm;have hT:=(he.mem x).1 (List.mem_of_getElem? g2);obtain ⟨v,hv⟩:=Option.ne_none_iff_exists'.1 hT;rw [hv] at hf ⊢;simp [Instr.lookup,run_underlying hu,MapKept.run_getObj_map hb,hc,hf,Result.andThen]
theorem ies_push {es:Array MapEntry} {clock:Nat} {K:List Int} {T:Int->Option Value} (he:IEs es clock K T) {x:Int} (hx:x ∉ K) (v:Value):IEs (es.push { key:=.int .i64 x,val:=v,born:=clock }) (clock+1) (K ++ [x]) (updI T x v):=by
 refine ⟨?_,?_,?_,?_,?_⟩
 ·
  intro y hy;rw [Array.toList_push,List.mem_append,List.mem_singleton] at hy
  rcases hy with hy | rfl
  · have:=he.old y hy;omega
  · show clock < clock+1;omega
 · rw [Array.toList_push,List.map_append];refine List.nodup_append.2 ⟨he.born,by simp,fun a ha c hc e1 => ?_⟩;simp at hc;obtain ⟨y,hy,rfl⟩:=List.mem_map.1 ha;have:=he.old y hy;omega
 · rw [List.nodup_append];exact ⟨he.nd,by simp,fun a ha b hb=>by rw [List.mem_singleton] at hb;rw [hb];exact fun e=>hx (e ▸ ha)⟩
 ·
  intro p;unfold updI;rw [List.mem_append,List.mem_singleton,he.mem]
  by_cases e:p=x
  · rw [if_pos e];simp [e]
  · rw [if_neg e];simp [e]
 ·
  rw [Array.toList_push,List.map_append,List.map_append,he.kv]
  congr 1
  · refine List.map_congr_left fun p hp => ?_;unfold updI;have hne:p ≠ x:=fun e=>hx (e ▸ hp);rw [if_neg hne]
  · simp [updI]
theorem ies_set {es:Array MapEntry} {clock:Nat} {K:List Int} {T:Int->Option Value} (he:IEs es clock K T) {x:Int} {y:Nat} {e0:MapEntry} (g2:K[y]?=some x) (he0:es.toList[y]?=some e0) (hk0:e0.key=.int .i64 x) (v:Value) {es':Array MapEntry} (hml:es'.toList=es.toList.set y { e0 with val:=v }):IEs es' clock K (updI T x v):=by
 have hyl:y < K.length:=(List.getElem?_eq_some_iff.1 g2).1;refine ⟨?_,?_,he.nd,?_,?_⟩
 ·
  intro z hz;rw [hml] at hz
  rcases List.mem_or_eq_of_mem_set hz with hz | rfl
  · exact he.old z hz
  · exact he.old e0 (List.mem_of_getElem? he0)
 ·
  rw [hml,List.map_set]
  show (List.set _ y e0.born).Nodup
  rw [Go.WideElems.set_self _ _ _ (by rw [List.getElem?_map,he0];rfl)];exact he.born
 ·
  intro p;unfold updI;rw [he.mem]
  by_cases e:p=x
  · rw [if_pos e];have:=(he.mem x).1 (List.mem_of_getElem? g2);simp [e,this]
  · rw [if_neg e]
 ·
  rw [hml,List.map_set,he.kv];refine List.ext_getElem? fun j => ?_;rw [List.getElem?_set,List.getElem?_map,List.getElem?_map]
  by_cases hjy:y=j
  · subst hjy;rw [if_pos rfl,List.length_map,if_pos hyl,g2];simp [updI,hk0]
  ·
   rw [if_neg hjy]
   cases hp:K[j]? with
   | none=>rfl
   | some p =>
    have:p ≠ x:=fun e=>by
     subst e;obtain ⟨i1,e1⟩:=List.getElem?_eq_some_iff.1 g2;obtain ⟨i2,e2⟩:=List.getElem?_eq_some_iff.1 hp;exact hjy ((List.getElem_inj he.nd).1 (e1.trans e2.symm))
    simp [updI,this]
theorem ies_at {es:Array MapEntry} {clock:Nat} {K:List Int} {T:Int->Option Value} (he:IEs es clock K T) {x:Int} {y:Nat} (hm:pzI x K 0=some y):∃ e0,es.toList[y]?=some e0/\K[y]?=some x/\e0.key=.int .i64 x/\e0.val=(T x).getD dV:=by
 obtain ⟨_,g2⟩:=pzI_some hm;rw [Nat.sub_zero] at g2;have hlen:es.toList.length=K.length:=(by have:=congrArg List.length he.kv;simpa using this);have hyl:y < K.length:=(List.getElem?_eq_some_iff.1 g2).1;obtain ⟨e0,he0⟩:∃ e0,es.toList[y]?=some e0:=⟨_,List.getElem?_eq_getElem (by omega)⟩;have a:(es.toList.map (fun e=>(e.key,e.val)))[y]?=some (e0.key,e0.val):=(by rw [List.getElem?_map,he0];rfl);rw [he.kv,List.getElem?_map,g2] at a;have hkv:(e0.key,e0.val)=(Value.int .i64 x,(T x).getD dV):=(by simpa using a.symm);exact ⟨e0,he0,g2,congrArg Prod.fst hkv,congrArg Prod.snd hkv⟩
theorem IMap.upd {mt vt:TypeId} (hu:Tryz.prog.underlying mt=some (TypeDesc.map 3 vt)) (h:IMap w r T) (x:Int) (v:Value) :
  ∃ w',(Instr.mapUpdate mt (.map (some r)) (.int .i64 x) v).run Tryz.prog w=.ok () w'/\IMap w' r (updI T x v)/\Fr w.heap.size [r] w w'/\w'.heap.size=w.heap.size:=by
 have hlt:=h.lt;obtain ⟨K,es,clock,hb,he⟩:=h;have hc:=fun b=>ikey b x w;have hf:=MapKept.run_findKey (P:=Tryz.prog) (w:=w) Tryz.underlying3 (inow T x es.toList K 0 he.kv)
 cases hm:pzI x K 0 with
 | none =>
  rw [hm] at hf;refine ⟨setI w r (.map (es.push { key:=.int .i64 x,val:=v,born:=clock }) (clock+1)),?_,⟨K ++ [x],_,_,setI_new hlt _,ies_push he (pzI_none hm) v⟩,setI_fr _ _ _,setI_size _ _ _⟩;simp [Instr.mapUpdate,run_underlying hu,MapKept.run_getObj_map hb,hc,hf,MapKept.run_setObj_map _ hb,Result.andThen,setI]
 | some y =>
  rw [hm] at hf;obtain ⟨e0,he0,g2,hk0,hv0⟩:=ies_at he hm;have hj:es[y]?=some e0:=(by simpa using he0)
  have hml:(es.modify y (fun e=>{ e with key:=.int .i64 x,val:=v })).toList=es.toList.set y { e0 with val:=v }:=by
   rw [Array.toList_modify,Go.ChangeMaps.modify_eq_set _ _ _ _ he0,<- hk0]
  refine ⟨setI w r (.map (es.modify y (fun e=>{ e with key:=.int .i64 x,val:=v })) clock),?_,⟨K,_,_,setI_new hlt _,ies_set he g2 he0 hk0 v hml⟩,setI_fr _ _ _,setI_size _ _ _⟩;simp [Instr.mapUpdate,run_underlying hu,MapKept.run_getObj_map hb,hc,hf,hj,hk0,istays,MapKept.run_setObj_map _ hb,Result.andThen,setI]
theorem IMap.entry {mt vt:TypeId} {z:Value} (hu:Tryz.prog.underlying mt=some (TypeDesc.map 3 vt)) (hz:∀ u,(zeroValue vt).run Tryz.prog u=.ok z u) (h:IMap w r T) (x:Int) :
  ∃ (st:Int) (w1:World),(Instr.mapEntry mt (.map (some r)) (.int .i64 x)).run Tryz.prog w=.ok (.tuple #[(T x).getD z,.int .i64 st]) w1/\Fr w.heap.size [r] w w1/\w1.heap.size=w.heap.size /\
   ∀ (w2:World) (v:Value),w2.heap[r]?=w1.heap[r]?->∃ w3,(Instr.entryStore mt (.map (some r)) (.int .i64 st) v).run Tryz.prog w2=.ok () w3/\IMap w3 r (updI T x v)/\Fr w2.heap.size [r] w2 w3/\w3.heap.size=w2.heap.size:=by
 have hlt:=h.lt;obtain ⟨K,es,clock,hb,he⟩:=h;have hc:=fun b=>ikey b x w;have hf:=MapKept.run_findKey (P:=Tryz.prog) (w:=w) Tryz.underlying3 (inow T x es.toList K 0 he.kv)
 cases hm:pzI x K 0 with
 | none =>
  rw [hm] at hf;have hT:T x=none:=Classical.byContradiction fun c=>pzI_none hm ((he.mem x).2 c);rw [hT];refine ⟨clock,setI w r (.map (es.push { key:=.int .i64 x,val:=z,born:=clock }) (clock+1)),?_,setI_fr _ _ _,setI_size _ _ _,fun w2 v hw2 => ?_⟩
  · simp [Instr.mapEntry,run_underlying hu,MapKept.run_getObj_map hb,hc,hf,hz,MapKept.run_setObj_map _ hb,Result.andThen,setI,goInt]
  ·
   rw [setI_new hlt] at hw2
   have hlt2:r < w2.heap.size:=by
    rcases Nat.lt_or_ge r w2.heap.size with h | h
    · exact h
    · rw [Array.getElem?_eq_none h] at hw2;cases hw2
   have hidx:(es.push ⟨.int .i64 x,z,clock⟩).findIdx? (fun e=>((e.born:Nat):Int) == ((clock:Nat):Int))=some es.size:=by
    rw [Go.WideElems.findIdx_arr];have:=Go.WideElems.findIdx_born (l:=(es.push ⟨.int .i64 x,z,clock⟩).toList) (j:=es.size) (e0:=⟨.int .i64 x,z,clock⟩) (ies_push he (pzI_none hm) z).born (by simp);exact this
   have hmod:(es.push ⟨.int .i64 x,z,clock⟩).modify es.size (fun e=>{ e with val:=v })=es.push ⟨.int .i64 x,v,clock⟩:=by
    apply Array.ext';rw [Array.toList_modify,Array.toList_push,Array.toList_push,<- Array.length_toList,Go.WideElems.modify_last]
   refine ⟨setI w2 r (.map (es.push ⟨.int .i64 x,v,clock⟩) (clock+1)),?_,⟨K ++ [x],_,_,setI_new hlt2 _,ies_push he (pzI_none hm) v⟩,setI_fr _ _ _,setI_size _ _ _⟩;simp [Instr.entryStore,MapKept.run_getObj_map hw2,asInt,asIntOf,hidx,hmod,MapKept.run_setObj_map _ hw2,Result.andThen,setI]
 | some y =>
  rw [hm] at hf;obtain ⟨e0,he0,g2,hk0,hv0⟩:=ies_at he hm;have hj:es[y]?=some e0:=(by simpa using he0);have hT:=(he.mem x).1 (List.mem_of_getElem? g2);obtain ⟨v0,hv⟩:=Option.ne_none_iff_exists'.1 hT;rw [hv] at hf ⊢
  have hsame:es.modify y (fun e=>{ e with key:=.int .i64 x })=es:=by
   apply Array.ext';rw [Array.toList_modify,Go.ChangeMaps.modify_eq_set _ _ _ _ he0];have:({ e0 with key:=.int .i64 x }:MapEntry)=e0:=(by rw [<- hk0]);rw [this];exact Go.WideElems.set_self _ _ _ he0
  refine ⟨e0.born,setI w r (.map es clock),?_,setI_fr _ _ _,setI_size _ _ _,fun w2 v hw2 => ?_⟩
  · simp [Instr.mapEntry,run_underlying hu,MapKept.run_getObj_map hb,hc,hf,hj,hk0,istays,hsame,MapKept.run_setObj_map _ hb,Result.andThen,setI,goInt]
  ·
   rw [setI_new hlt] at hw2
   have hlt2:r < w2.heap.size:=by
    rcases Nat.lt_or_ge r w2.heap.size with h | h
    · exact h
    · rw [Array.getElem?_eq_none h] at hw2;cases hw2
   have hidx:es.findIdx? (fun e=>((e.born:Nat):Int) == ((e0.born:Nat):Int))=some y:=by
    rw [Go.WideElems.findIdx_arr];exact Go.WideElems.findIdx_born he.born he0
   have hml:(es.modify y (fun e=>{ e with val:=v })).toList=es.toList.set y { e0 with val:=v }:=by
    rw [Array.toList_modify,Go.ChangeMaps.modify_eq_set _ _ _ _ he0]
   refine ⟨setI w2 r (.map (es.modify y (fun e=>{ e with val:=v })) clock),?_,⟨K,_,_,setI_new hlt2 _,ies_set he g2 he0 hk0 v hml⟩,setI_fr _ _ _,setI_size _ _ _⟩;simp [Instr.entryStore,MapKept.run_getObj_map hw2,asInt,asIntOf,hidx,MapKept.run_setObj_map _ hw2,Result.andThen,setI]
end
end Go.Proofs.YtlejomlppjpchaaGreat
namespace Go.Fb
open Go.RowKit
set_option maxRecDepth 100000
set_option maxHeartbeats 16000000
set_option linter.unusedVariables false
def setL (w:World) (g:Nat):Nat->List Value->World
 | _,[]=>w
 | o,u :: us=>setL (w.setCell ⟨g,o,none⟩ u) g (o+1) us
def putL (cs:Array Value):Nat->List Value->Array Value
 | _,[]=>cs
 | o,u :: us=>putL (cs.setIfInBounds o u) (o+1) us
theorem blk_setL {g t:Nat}:∀ (us:List Value) (o:Nat) {w:World} {cs:Array Value},Blk w g t cs->Blk (setL w g o us) g t (putL cs o us)
 | [],_,_,_,h=>h
 | u :: us,o,_,_,h=>blk_setL us (o+1) (h.set_ o u)
theorem fr_setL {B g:Nat} {L:List Nat} {a:World} (hg:B<=g \/ g ∈ L):∀ (us:List Value) (o:Nat) {w:World},Fr B L a w->Fr B L a (setL w g o us)
 | [],_,_,h=>h
 | u :: us,o,_,h=>fr_setL hg us (o+1) (h.setCell (p:=⟨g,o,none⟩) hg u)
theorem far_setL {g k t:Nat} (hk:k ≠ g):∀ (us:List Value) (o:Nat) {w:World} {cs:Array Value},Blk w k t cs->Blk (setL w g o us) k t cs
 | [],_,_,_,h=>h
 | u :: us,o,_,_,h=>far_setL hk us (o+1) (h.far (p:=⟨g,o,none⟩) hk u)
end Go.Fb
namespace Go.Proofs.YtlejomlppjpchaaGreat
open Go.RowKit Go.Fb
set_option maxRecDepth 100000
set_option maxHeartbeats 16000000
set_option linter.unusedVariables false
theorem rright_any (i:Int × Int) (w:World):Calls Tryz.prog 156 #[.agg #[.int .i64 i.1,.int .i64 i.2]] w fun e w'=>e=.returned (.bool (rightB i))/\Fr w.heap.size [] w w':=by
 obtain ⟨o,a⟩:=i;obtain ⟨v,hv⟩:=nm (rightB (o,a));rw [<- hv];unfold rightB boF boT at hv;simp only at hv ⊢
 by_cases c1:o < 0
 ·
  obtain rfl:v=false:=by rw [hv];exact decide_eq_false (by omega)
  clear hv;go_enter Tryz.func156,Tryz.ntmps156;go_wp2_with fail;go_ret;exact ⟨rfl,(Fr.refl _ _ _).alloc (Nat.le_refl _) _⟩
 by_cases c2:17 < o
 ·
  obtain rfl:v=false:=by rw [hv];exact decide_eq_false (by omega)
  clear hv;go_enter Tryz.func156,Tryz.ntmps156;go_wp2_with fail;go_ret;exact ⟨rfl,(Fr.refl _ _ _).alloc (Nat.le_refl _) _⟩
 by_cases h12:o=1 \/ o=2
 ·
  rw [if_pos h12,if_pos h12] at hv
  by_cases a1:a < -524288
  ·
   obtain rfl:v=false:=by rw [hv];exact decide_eq_false (by omega)
   have hd:decide (-524288<=a)=false:=decide_eq_false (by omega);clear hv
   rcases h12 with rfl | rfl
   all_goals
    go_enter Tryz.func156,Tryz.ntmps156;go_wp2_with fail;go_ret;exact ⟨rfl,(Fr.refl _ _ _).alloc (Nat.le_refl _) _⟩
  by_cases a2:524287 < a
  ·
   obtain rfl:v=false:=by rw [hv];exact decide_eq_false (by omega)
   have hd:decide (a<=524287)=false:=decide_eq_false (by omega);clear hv
   rcases h12 with rfl | rfl
   all_goals
    go_enter Tryz.func156,Tryz.ntmps156;go_wp2_with fail;go_ret;exact ⟨rfl,(Fr.refl _ _ _).alloc (Nat.le_refl _) _⟩
  ·
   obtain rfl:v=true:=by rw [hv];exact decide_eq_true (by omega)
   have hd:decide (a<=524287)=true:=decide_eq_true (by omega);have hd2:decide (-524288<=a)=true:=decide_eq_true (by omega);clear hv
   rcases h12 with rfl | rfl
   all_goals
    go_enter Tryz.func156,Tryz.ntmps156;go_wp2_with fail;go_ret;exact ⟨rfl,(Fr.refl _ _ _).alloc (Nat.le_refl _) _⟩
 rw [if_neg h12,if_neg h12] at hv
 by_cases h45:o=4 \/ o=5
 ·
  rw [if_pos h45,if_pos h45] at hv
  by_cases a0:a=0
  ·
   obtain rfl:v=true:=by rw [hv];exact decide_eq_true (by omega)
   subst a0;clear hv
   rcases h45 with rfl | rfl
   all_goals
    go_enter Tryz.func156,Tryz.ntmps156;go_wp2_with fail;go_ret;exact ⟨rfl,(Fr.refl _ _ _).alloc (Nat.le_refl _) _⟩
  by_cases a1:a=1
  ·
   obtain rfl:v=true:=by rw [hv];exact decide_eq_true (by omega)
   subst a1;clear hv
   rcases h45 with rfl | rfl
   all_goals
    go_enter Tryz.func156,Tryz.ntmps156;go_wp2_with fail;go_ret;exact ⟨rfl,(Fr.refl _ _ _).alloc (Nat.le_refl _) _⟩
  ·
   obtain rfl:v=false:=by rw [hv];exact decide_eq_false (by omega)
   have e0:(a == 0)=false:=(by simpa using a0);have e1:(a == 1)=false:=(by simpa using a1);clear hv
   rcases h45 with rfl | rfl
   all_goals
    go_enter Tryz.func156,Tryz.ntmps156;go_wp2_with fail;go_ret;exact ⟨rfl,(Fr.refl _ _ _).alloc (Nat.le_refl _) _⟩
 rw [if_neg h45,if_neg h45] at hv
 by_cases hj:o=15 \/ o=16
 ·
  rw [if_pos hj,if_pos hj] at hv
  by_cases a1:a < 1
  ·
   obtain rfl:v=false:=by rw [hv];exact decide_eq_false (by omega)
   have hd:decide (1<=a)=false:=decide_eq_false (by omega);clear hv
   rcases hj with rfl | rfl
   all_goals
    go_enter Tryz.func156,Tryz.ntmps156;go_wp2_with fail;go_ret;exact ⟨rfl,(Fr.refl _ _ _).alloc (Nat.le_refl _) _⟩
  by_cases a2:24 < a
  ·
   obtain rfl:v=false:=by rw [hv];exact decide_eq_false (by omega)
   have hd:decide (a<=24)=false:=decide_eq_false (by omega);clear hv
   rcases hj with rfl | rfl
   all_goals
    go_enter Tryz.func156,Tryz.ntmps156;go_wp2_with fail;go_ret;exact ⟨rfl,(Fr.refl _ _ _).alloc (Nat.le_refl _) _⟩
  ·
   obtain rfl:v=true:=by rw [hv];exact decide_eq_true (by omega)
   have hd:decide (a<=24)=true:=decide_eq_true (by omega);have hd2:decide (1<=a)=true:=decide_eq_true (by omega);clear hv
   rcases hj with rfl | rfl
   all_goals
    go_enter Tryz.func156,Tryz.ntmps156;go_wp2_with fail;go_ret;exact ⟨rfl,(Fr.refl _ _ _).alloc (Nat.le_refl _) _⟩
 ·
  rw [if_neg hj,if_neg hj] at hv;have n1:(o == 1)=false:=(by simp;omega);have n2:(o == 2)=false:=(by simp;omega);have n4:(o == 4)=false:=(by simp;omega);have n5:(o == 5)=false:=(by simp;omega);have n15:(o == 15)=false:=(by simp;omega);have n16:(o == 16)=false:=(by simp;omega);obtain rfl:v=(a == 0):=by rw [hv,Bool.eq_iff_iff];simp;omega
  clear hv h12 h45 hj;go_enter Tryz.func156,Tryz.ntmps156;go_wp2_with fail;go_ret;exact ⟨rfl,(Fr.refl _ _ _).alloc (Nat.le_refl _) _⟩
theorem rfits_any (A:Option Addr) (c B:Nat) (l:List (Int × Int)) (w:World) (hr:Reads w B 2 A l.length (cellsI l)) (hB:B<=w.heap.size) (hn:l.length<=maxLen) :
  Calls Tryz.prog 113 #[.slice A l.length c] w fun e w'=>e=.returned (.bool (fitsB l))/\Fr w.heap.size [] w w':=by
 unfold maxLen at hn;have HR:=zh hr;obtain ⟨n,hnl⟩:=nm (l.length);have HV:=zh (show fitsB l=(decide (n<=24) && l.all rightB) by rw [hnl];rfl);rw [<- hnl] at hn ⊢;have HN:=zh hnl;clear hr hnl;go_enter Tryz.func113,Tryz.ntmps113;go_wp2_with fail;go_loopw [3] (fun i wr=>∃ k:Nat,k<=n/\i=.int .i64 k/\Hid ((l.take k).all rightB=true)/\Hid (Fr w.heap.size [] w wr)) (fun i _=>n - (intOf i).toNat)
 case atStart=>exact ⟨0,Nat.zero_le _,rfl,rfl,Fr.refl _ _ _⟩
 case round =>
  obtain ⟨k,hk,rfl,HA,HF⟩:=hrel
  by_cases hlt:k < n
  ·
   obtain ⟨x,hx⟩:∃ x,l[k]?=some x:=⟨_,List.getElem?_eq_getElem (by rw [<- HN.out];exact hlt)⟩;obtain ⟨b,off,rfl,hb,c1,c2⟩:=reads_ins (HR.out.fr HF.out hB (by simp)) hx;have hki:(k:Int) < (n:Int):=(by omega);have HX:=zh hx;clear hx;go_wp2_with fail;refine (rright_any x _).mono ?_;rintro e w1 ⟨rfl,f1⟩;have F1:=zh (HF.out.nx f1);clear f1
   cases hrx:rightB x
   case false =>
    have HVV:=zh (all_bad HX.out hrx);clear hrx;go_wp2_with fail;go_ret;exact ⟨by rw [HV.out,HVV.out];simp,F1.out⟩
   case true =>
    have HVV:=zh hrx;clear hrx;go_wp2_with fail;go_roundw
    case rel=>exact ⟨k+1,by omega,by go_num,(by show _=_;rw [all_take_succ HX.out,HA.out,HVV.out];rfl),F1.out⟩
    case measure=>simp [intOf];omega
  ·
   obtain rfl:n=k:=by omega
   have h:=HA.out;rw [List.take_of_length_le (by rw [HN.out];exact Nat.le_refl _)] at h;have HH:=zh h;clear h;go_wp2_with fail;go_ret;exact ⟨by rw [HV.out,HH.out,Bool.and_true];simp;omega,HF.out⟩
theorem take_any (o:Int) (ho:0<=o/\o<=17) (w:World):Calls Tryz.prog 114 #[.int .i64 o] w fun e w'=>e=.returned (.int .i64 (takesF o))/\w=w':=by
 have h:o=0 \/ o=1 \/ o=2 \/ o=3 \/ o=4 \/ o=5 \/ o=6 \/ o=7 \/ o=8 \/ o=9 \/ o=10 \/ o=11 \/ o=12 \/ o=13 \/ o=14 \/ o=15 \/ o=16 \/ o=17:=(by omega);clear ho
 rcases h with rfl | rfl | rfl | rfl | rfl | rfl | rfl | rfl | rfl | rfl | rfl | rfl | rfl | rfl | rfl | rfl | rfl | rfl
 all_goals
  go_enter Tryz.func114,Tryz.ntmps114;go_wp2_with fail;go_ret;exact ⟨by simp [takesF],rfl⟩
theorem leave_any (o:Int) (ho:0<=o/\o<=17) (w:World):Calls Tryz.prog 115 #[.int .i64 o] w fun e w'=>e=.returned (.int .i64 (leavesF o))/\w=w':=by
 have h:o=0 \/ o=1 \/ o=2 \/ o=3 \/ o=4 \/ o=5 \/ o=6 \/ o=7 \/ o=8 \/ o=9 \/ o=10 \/ o=11 \/ o=12 \/ o=13 \/ o=14 \/ o=15 \/ o=16 \/ o=17:=(by omega);clear ho
 rcases h with rfl | rfl | rfl | rfl | rfl | rfl | rfl | rfl | rfl | rfl | rfl | rfl | rfl | rfl | rfl | rfl | rfl | rfl
 all_goals
  go_enter Tryz.func115,Tryz.ntmps115;go_wp2_with fail;go_ret;exact ⟨by simp [leavesF],rfl⟩
abbrev triV (x:Tri):Value:=.agg #[.int .i64 x.at_,.int .i64 x.d,.int .i64 x.e]
theorem tri_beq (x y:Tri):((x.at_:Int) == (y.at_:Int) && x.d == y.d && x.e == y.e)=decide (x=y):=by
 obtain ⟨a,b,c⟩:=x;obtain ⟨a',b',c'⟩:=y;rw [Bool.eq_iff_iff];simp;omega
theorem tri_eq (x y:Tri) (w:World):(Op.equal 251 (triV x) (triV y)).run Tryz.prog w=.ok (decide (x=y)) w:=by
 have h:(Op.equalIn 10000 251 (triV x) (triV y)).run Tryz.prog w=.ok ((x.at_:Int) == (y.at_:Int) && x.d == y.d && x.e == y.e) w:=by
  rw [run_equalIn_struct w 9999 251 _ _ (by kernel_rfl) (by kernel_rfl)];simp only [Program.fieldsOf,Tryz.underlying251]
  by_cases h1:(x.at_:Int)=(y.at_:Int)
  ·
   by_cases h2:x.d=y.d
   · by_cases h3:x.e=y.e <;> simp [Op.eqFields,part,isAgg,run_underlying Tryz.underlying3,run_equalIn_int w 9998 3 .i64 .i64 _ _ Tryz.underlying3,h1,h2,h3]
   · simp [Op.eqFields,part,isAgg,run_underlying Tryz.underlying3,run_equalIn_int w 9998 3 .i64 .i64 _ _ Tryz.underlying3,h1,h2]
  ·
   have h2:((x.at_:Int) == (y.at_:Int))=false:=by rw [beq_eq_false_iff_ne];exact h1
   simp [Op.eqFields,part,isAgg,run_underlying Tryz.underlying3,run_equalIn_int w 9998 3 .i64 .i64 _ _ Tryz.underlying3];rw [if_neg h1,h2];rfl
 rw [tri_beq] at h;simp [Op.equal,Op.maxDepth,h]
theorem tri_check (b:Bool) (x:Tri) (w:World):(Instr.checkKey b 10000 251 (triV x)).run Tryz.prog w=.ok () w:=by
 have hi:∀ v:Int,(Instr.checkKey b 9999 3 (.int .i64 v)).run Tryz.prog w=.ok () w:=fun v=>MapKept.run_checkKey (k:=.int .i64 v) Tryz.underlying3 (by simp [MapKept.IsKey]) b 9998;rw [show (10000:Nat)=9999+1 from rfl];unfold Instr.checkKey;simp [run_underlying Tryz.underlying251,Result.andThen,part,isAgg,run_underlying Tryz.underlying3,hi]
def TriMap (w:World) (r:Nat) (l:List Tri):Prop :=
 ∃ es clock,w.heap[r]?=some (.map es clock)/\es.toList.map (fun e=>(e.key,e.val))=l.map (fun x=>(triV x,Value.bool true))
theorem tri_asking (x:Tri) (w:World):∀ (es:List MapEntry) (l:List Tri) (i:Nat),es.map (fun e=>(e.key,e.val))=l.map (fun y=>(triV y,Value.bool true)) ->
  if x ∈ l then ∃ j,(Instr.findAsking 251 (triV x) es i).run Tryz.prog w=.ok (some (j,.bool true)) w else (Instr.findAsking 251 (triV x) es i).run Tryz.prog w=.ok none w
 | [],[],i,_=>by simp [Instr.findAsking]
 | [],_ :: _,_,h=>by simp at h
 | _ :: _,[],_,h=>by simp at h
 | e :: es,y :: l,i,h=>by
  simp only [List.map_cons,List.cons.injEq,Prod.mk.injEq] at h;obtain ⟨⟨h1,h2⟩,h3⟩:=h;have ih:=tri_asking x w es l (i+1) h3;have he:=tri_eq x y w;rw [<- h1] at he
  by_cases hxy:x=y
  · rw [decide_eq_true hxy] at he;rw [if_pos (by simp [hxy])];exact ⟨i,by simp [Instr.findAsking,he,Result.andThen,h2]⟩
  · rw [decide_eq_false hxy] at he;have hm:(x ∈ y :: l)=(x ∈ l):=(by simp [hxy]);simp only [hm];simp only [Instr.findAsking,Sem.run_bind,he,Result.andThen_ok,Bool.false_eq_true,if_false];exact ih
theorem tri_find {w:World} {l:List Tri} (x:Tri) (es:Array MapEntry) (h:es.toList.map (fun e=>(e.key,e.val))=l.map (fun y=>(triV y,Value.bool true))) :
  if x ∈ l then ∃ j,(Instr.findKey 251 (triV x) es.toList).run Tryz.prog w=.ok (some (j,.bool true)) w else (Instr.findKey 251 (triV x) es.toList).run Tryz.prog w=.ok none w:=by
 have ha:=tri_asking x w es.toList l 0 h
 cases hl:es.toList with
 | nil =>
  rw [hl] at h;have:l=[]:=(by simpa using h.symm);subst this;simp [Instr.findKey,run_underlying Tryz.underlying251,Result.andThen,Instr.findNow]
 | cons e es' =>
  rw [hl] at ha h
  cases l with
  | nil=>simp at h
  | cons y l' =>
   have hk:e.key=triV y:=(by simp at h;exact h.1.1)
   have hn:Instr.findNow (Tryz.prog.underlying 251 |>.getD .bool) (triV x) (e :: es') 0=none:=by
    rw [Tryz.underlying251];simp [Instr.findNow,hk,Instr.sameNow]
   have hrun:(Instr.findKey 251 (triV x) (e :: es')).run Tryz.prog w=(Instr.findAsking 251 (triV x) (e :: es') 0).run Tryz.prog w:=by
    rw [Tryz.underlying251] at hn;simp only [Option.getD_some] at hn;simp [Instr.findKey,run_underlying Tryz.underlying251,Result.andThen,hn]
   rw [hrun];exact ha
theorem TriMap.look {w:World} {r:Nat} {l:List Tri} (h:TriMap w r l) (x:Tri):(Instr.lookup 249 (.map (some r)) (triV x) false).run Tryz.prog w=.ok (.bool (decide (x ∈ l))) w:=by
 obtain ⟨es,clock,hb,he⟩:=h;have hc:=fun b=>tri_check b x w;have hz:(zeroValue 4).run Tryz.prog w=.ok (.bool false) w:=(by kernel_rfl);have hf:=tri_find (w:=w) x es he
 by_cases hm:x ∈ l
 · rw [if_pos hm] at hf;obtain ⟨j,hf⟩:=hf;rw [decide_eq_true hm];simp [Instr.lookup,run_underlying Tryz.underlying249,MapKept.run_getObj_map hb,hc,hf,Result.andThen]
 · rw [if_neg hm] at hf;rw [decide_eq_false hm];simp [Instr.lookup,run_underlying Tryz.underlying249,MapKept.run_getObj_map hb,hc,hf,hz,Result.andThen]
theorem TriMap.lt {w:World} {r:Nat} {l:List Tri} (h:TriMap w r l):r < w.heap.size:=by
 obtain ⟨es,clock,hb,he⟩:=h
 rcases Nat.lt_or_ge r w.heap.size with h | h
 · exact h
 · rw [Array.getElem?_eq_none h] at hb;cases hb
theorem TriMap.store {w:World} {r:Nat} {l:List Tri} (h:TriMap w r l) {x:Tri} (hx:x ∉ l) :
  ∃ w',(Instr.mapUpdate 249 (.map (some r)) (triV x) (.bool true)).run Tryz.prog w=.ok () w'/\TriMap w' r (l ++ [x])/\Fr w.heap.size [r] w w':=by
 have hlt:=h.lt;obtain ⟨es,clock,hb,he⟩:=h;have hf:=tri_find (w:=w) x es he;rw [if_neg hx] at hf;refine ⟨{ w with heap:=w.heap.setIfInBounds r (.map (es.push { key:=triV x,val:=.bool true,born:=clock }) (clock+1)) },?_,⟨es.push { key:=triV x,val:=.bool true,born:=clock },clock+1,by simp [hlt],?_⟩,⟨rfl,rfl,rfl,by simp,fun k _ hk => ?_⟩⟩
 · simp [Instr.mapUpdate,run_underlying Tryz.underlying249,MapKept.run_getObj_map hb,tri_check,hf,MapKept.run_setObj_map _ hb,Result.andThen]
 · simp [he]
 · have:r ≠ k:=fun h=>hk (by simp [h]);simp [this]
theorem TriMap.fr {w w':World} {r B:Nat} {L:List Nat} {l:List Tri} (h:TriMap w r l) (hf:Fr B L w w') (h1:r < B) (h2:r ∉ L):TriMap w' r l:=by
 obtain ⟨es,clock,hb,he⟩:=h;exact ⟨es,clock,(hf.block r h1 h2).trans hb,he⟩
theorem ownsRow_put {w:World} {base e n g c size:Nat} {xs:List Value} (h:w.ownsRow base e size (.slice (some ⟨g,0,none⟩) n c) n xs) (k:Nat) (u:Value) :
  (w.setCell ⟨g,k,none⟩ u).ownsRow base e size (.slice (some ⟨g,0,none⟩) n c) n (xs.set k u):=by
 obtain ⟨hl,hc⟩:=h;refine ⟨by rw [List.length_set];exact hl,.inr ?_⟩
 rcases hc with ⟨hn,_⟩ | ⟨g',cap,cur,hv,hb,hg,h1,h2,h3,h4⟩
 · cases hn
 ·
  have hv':=hv;injection hv with hv1 hv2 hv3
  injection hv1 with hv1
  injection hv1 with hv1
  subst hv1;refine ⟨g,cap,cur.setIfInBounds k u,hv',hb,?_,h1,h2,by rw [Array.size_setIfInBounds];exact h3,?_⟩
  · simp [World.setCell,Array.getElem?_modify,hg]
  · rw [Array.toList_setIfInBounds,List.take_set,h4]
theorem own_frozen {w:World} {base e n g c size:Nat} {xs:List Value} (h:w.ownsRow base e size (.slice (some ⟨g,0,none⟩) n c) n xs) (k:Nat):w.frozen? ⟨g,k,none⟩=false:=by
 rcases h.2 with ⟨hn,_⟩ | ⟨g',cap,cur,hv,hb,hg,_⟩
 · cases hn
 ·
  injection hv with hv
  injection hv with hv
  injection hv with hv
  subst hv;simp [World.frozen?,hg]
def intsL (n:Nat) (D:Nat->Int):List Value:=(List.range n).map fun k=>Value.int .i64 (D k)
theorem intsL_get {n k:Nat} (D:Nat->Int) (h:k < n):(intsL n D)[k]?=some (.int .i64 (D k)):=by simp [intsL,h]
theorem intsL_set {n k:Nat} (D:Nat->Int) (u:Int):(intsL n D).set k (.int .i64 u)=intsL n (updC D k u):=by
 apply List.ext_getElem?;intro i;rw [List.getElem?_set]
 by_cases hi:i < n
 ·
  by_cases e:k=i
  · subst e;simp [intsL,updC,hi]
  · have e':¬ i=k:=fun h=>e h.symm;simp [intsL,updC,hi,e,e']
 ·
  by_cases e:k=i
  · subst e;simp [intsL,hi]
  · simp [intsL,hi,e]
theorem intsL_succ (n:Nat) (D:Nat->Int):intsL (n+1) D=intsL n D ++ [.int .i64 (D n)]:=by
 unfold intsL;rw [List.range_succ,List.map_append];rfl
def triC (x:Tri):List Value:=[.int .i64 x.at_,.int .i64 x.d,.int .i64 x.e]
def cellsT (l:List Tri):List Value:=l.flatMap triC
theorem cellsT_length (l:List Tri):(cellsT l).length=l.length * 3:=by
 unfold cellsT
 induction l with
 | nil=>rfl
 | cons x l ih=>rw [List.flatMap_cons,List.length_append,ih];simp [triC];omega
theorem cellsT_app (l m:List Tri):cellsT (l ++ m)=cellsT l ++ cellsT m:=by unfold cellsT;rw [List.flatMap_append]
theorem cellsT_last (td:List Tri) (x:Tri):(cellsT (td ++ [x]))[td.length * 3]?=some (.int .i64 x.at_)/\(cellsT (td ++ [x]))[td.length * 3+1]?=some (.int .i64 x.d)/\(cellsT (td ++ [x]))[td.length * 3+2]?=some (.int .i64 x.e):=by
 rw [cellsT_app];have e:cellsT [x]=triC x:=(by simp [cellsT]);rw [e,List.getElem?_append_right (by rw [cellsT_length];exact Nat.le_refl _),List.getElem?_append_right (by rw [cellsT_length];omega),List.getElem?_append_right (by rw [cellsT_length];omega),cellsT_length];rw [Nat.sub_self,show td.length * 3+1 - td.length * 3=1 by omega,show td.length * 3+2 - td.length * 3=2 by omega];exact ⟨rfl,rfl,rfl⟩
theorem triTy:SliceTy Tryz.prog 252 251 3 24:=SliceTy.mk' (z:=.agg #[.int .i64 0,.int .i64 0,.int .i64 0]) Tryz.underlying252 (by kernel_rfl) rfl (by omega)
theorem dintTy:SliceTy Tryz.prog 43 3 1 8:=SliceTy.mk' (z:=.int .i64 0) Tryz.underlying43 (by kernel_rfl) rfl (by omega)
abbrev knC (v:Value) (a b:Int) (x y z:Bool):Array Value:=#[v,.int .i64 a,.int .i64 b,.bool x,.bool y,.bool z]
def set6 (w:World) (g:Nat) (v:Value) (a b:Int) (x y z:Bool):World :=
 (((((w.setCell ⟨g,0,none⟩ v).setCell ⟨g,1,none⟩ (.int .i64 a)).setCell ⟨g,2,none⟩ (.int .i64 b)).setCell ⟨g,3,none⟩ (.bool x)).setCell ⟨g,4,none⟩ (.bool y)).setCell ⟨g,5,none⟩ (.bool z)
theorem blk_set6 {w:World} {g t:Nat} {v0:Value} {a0 b0:Int} {x0 y0 z0:Bool} (h:Blk w g t (knC v0 a0 b0 x0 y0 z0)) (v:Value) (a b:Int) (x y z:Bool):Blk (set6 w g v a b x y z) g t (knC v a b x y z) :=
 (((((h.set_ 0 v).set_ 1 (.int .i64 a)).set_ 2 (.int .i64 b)).set_ 3 (.bool x)).set_ 4 (.bool y)).set_ 5 (.bool z)
theorem fr_set6 {B g:Nat} {L:List Nat} {a0 w:World} (h:Fr B L a0 w) (hg:B<=g \/ g ∈ L) (v:Value) (a b:Int) (x y z:Bool):Fr B L a0 (set6 w g v a b x y z) :=
 (((((h.setCell (p:=⟨g,0,none⟩) hg _).setCell (p:=⟨g,1,none⟩) hg _).setCell (p:=⟨g,2,none⟩) hg _).setCell (p:=⟨g,3,none⟩) hg _).setCell (p:=⟨g,4,none⟩) hg _).setCell (p:=⟨g,5,none⟩) hg _
structure TMem (w0:World) (k3 gm B n:Nat) (vD vT:Value) (W:WS) (w:World):Prop where
 res:Blk w w0.heap.size 170 (knC (.slice none 0 0) 0 0 false false false)
 blk:Blk w k3 170 (knC vD W.mx W.em W.u0 W.u1 true)
 map:TriMap w gm W.met
 dep:w.ownsRow B 3 1 vD n (intsL n W.D)
 todo:w.ownsRow B 251 3 vT W.todo.length (cellsT W.todo)
 dis:∀ q,vD.ownBlock=some q->vT.ownBlock ≠ some q
 fr:Fr w0.heap.size [] w0 w
 o1:w0.heap.size < k3
 o2:k3 < gm
 o3:gm < B
 sz:B<=w.heap.size
theorem TMem.keep {w0:World} {k3 gm B n:Nat} {vD vT:Value} {W:WS} {w w':World} (h:TMem w0 k3 gm B n vD vT W w) (hf:Fr w.heap.size [] w w'):TMem w0 k3 gm B n vD vT W w' :=
 ⟨h.res.fr hf h.res.lt (by simp),h.blk.fr hf h.blk.lt (by simp),h.map.fr hf h.map.lt (by simp),ownsRow_fr h.dep hf (fun q hq=>⟨(h.dep.lt q hq).2,by simp⟩),ownsRow_fr h.todo hf (fun q hq=>⟨(h.todo.lt q hq).2,by simp⟩),h.dis,h.fr.trans (hf.mono h.fr.size (by simp)),h.o1,h.o2,h.o3,Nat.le_trans h.sz hf.size⟩
theorem TMem.setK {w0:World} {k3 gm B n:Nat} {vD vT:Value} {W W':WS} {w:World} (h:TMem w0 k3 gm B n vD vT W w) (j:Nat) (u:Value) (hm:W'.met=W.met) (hD:W'.D=W.D) (ht:W'.todo=W.todo)
  (hc:(knC vD W.mx W.em W.u0 W.u1 true).setIfInBounds j u=knC vD W'.mx W'.em W'.u0 W'.u1 true):TMem w0 k3 gm B n vD vT W' (w.setCell ⟨k3,j,none⟩ u):=by
 have hb:=h.blk.set_ j u;rw [hc] at hb;refine ⟨h.res.far (p:=⟨k3,j,none⟩) (by have:=h.o1;show w0.heap.size ≠ k3;omega) u,hb,?_,?_,?_,h.dis,h.fr.setCell (p:=⟨k3,j,none⟩) (.inl (by have:=h.o1;show w0.heap.size<=k3;omega)) u,h.o1,h.o2,h.o3,by simpa [World.setCell] using h.sz⟩
 · rw [hm];exact h.map.fr ((Fr.refl w.heap.size [k3] w).setCell (p:=⟨k3,j,none⟩) (.inr (by simp)) u) h.map.lt (by have:=h.o2;simp;omega)
 · rw [hD];refine Go.Fb.ownsRow_setCell_other h.dep (p:=⟨k3,j,none⟩) (fun e => ?_) u;have:=(h.dep.lt _ e).1;have:=h.o2;have:=h.o3;simp at *;omega
 · rw [ht];refine Go.Fb.ownsRow_setCell_other h.todo (p:=⟨k3,j,none⟩) (fun e => ?_) u;have:=(h.todo.lt _ e).1;have:=h.o2;have:=h.o3;simp at *;omega
theorem TMem.setD {w0:World} {k3 gm B n c gd:Nat} {vT:Value} {W:WS} {w:World} (h:TMem w0 k3 gm B n (.slice (some ⟨gd,0,none⟩) n c) vT W w) (k:Nat) (d:Int) :
  TMem w0 k3 gm B n (.slice (some ⟨gd,0,none⟩) n c) vT { W with D:=updC W.D k d } (w.setCell ⟨gd,k,none⟩ (.int .i64 d)):=by
 have o1:=h.o1;have o2:=h.o2;have o3:=h.o3;have hgd:=(h.dep.lt gd rfl).1;refine ⟨h.res.far (p:=⟨gd,k,none⟩) (by show w0.heap.size ≠ gd;omega) _,h.blk.far (p:=⟨gd,k,none⟩) (by show k3 ≠ gd;omega) _,?_,?_,?_,h.dis,h.fr.setCell (p:=⟨gd,k,none⟩) (.inl (by show w0.heap.size<=gd;omega)) _,o1,o2,o3,by simpa [World.setCell] using h.sz⟩
 · exact h.map.fr ((Fr.refl w.heap.size [gd] w).setCell (p:=⟨gd,k,none⟩) (.inr (by simp)) _) h.map.lt (by simp;omega)
 · have:=ownsRow_put h.dep k (.int .i64 d);rw [intsL_set] at this;exact this
 · exact Go.Fb.ownsRow_setCell_other h.todo (p:=⟨gd,k,none⟩) (fun e=>h.dis gd rfl e) _
theorem TMem.growT {w0:World} {k3 gm B n:Nat} {vD vT v':Value} {W:WS} {w w2:World} {o:Obj} {x:Tri} (h:TMem w0 k3 gm B n vD vT W w) (hown:w2.ownsRow B 251 3 v' (W.todo.length+1) (cellsT W.todo ++ triC x))
  (hg:(w.alloc o).grownBy w2 vT.ownBlock) (hat:v'.ownBlock=vT.ownBlock \/ v'.ownBlock=some (w.heap.size+1)):TMem w0 k3 gm B n vD v' { W with todo:=W.todo ++ [x] } w2:=by
 have sz:=h.sz;have o1:=h.o1;have o2:=h.o2;have o3:=h.o3;have lt0:=h.res.lt;have lt1:=h.blk.lt;have lt2:=h.map.lt;have hT:∀ q,vT.ownBlock=some q->B<=q:=fun q hq=>(h.todo.lt q hq).1;have fa:Fr w.heap.size [] w (w.alloc o):=(Fr.refl _ _ _).alloc (Nat.le_refl _) _;have hr:=(h.res.fr fa lt0 (by simp)).grown hg (fun e=>by have:=hT _ e.symm;omega);have hb:=(h.blk.fr fa lt1 (by simp)).grown hg (fun e=>by have:=hT _ e.symm;omega)
 have hd : w2.ownsRow B 3 1 vD n (intsL n W.D) := (h.dep.alloc o).kept hg (by
  cases hv:vD.ownBlock with
  | none=>exact .inl rfl
  | some q=>exact .inr (fun e=>h.dis q hv e.symm))
 have f2:Fr w0.heap.size [] w0 w2:=(h.fr.trans (fa.mono h.fr.size (by simp))).grown hg (by have:=h.fr.size;simp;omega) (fun q hq=>.inl (by have:=hT q hq;omega));have hs:=hg.size;simp at hs;refine ⟨hr,hb,?_,hd,?_,?_,f2,o1,o2,o3,by omega⟩
 · have fm:Fr B [] (w.alloc o) w2:=(Fr.refl _ _ _).grown hg (by simp;omega) (fun q hq=>.inl (hT q hq));exact (h.map.fr fa lt2 (by simp)).fr fm (by omega) (by simp)
 ·
  have e1:cellsT (W.todo ++ [x])=cellsT W.todo ++ triC x:=by rw [cellsT_app];simp [cellsT]
  show w2.ownsRow B _ 3 v' (W.todo ++ [x]).length (cellsT (W.todo ++ [x]))
  rw [e1,List.length_append];exact hown
 ·
  intro q hq hv
  rcases hat with hat | hat
  · exact h.dis q hq (hat ▸ hv)
  ·
   rw [hat] at hv;injection hv with hv
   have:=(h.dep.lt q hq).2;omega
theorem TMem.keepL {w0:World} {k3 gm B n g:Nat} {vD vT:Value} {W:WS} {w w':World} (h:TMem w0 k3 gm B n vD vT W w) (hf:Fr w.heap.size [g] w w') (hg:B<=g) (hd:some g ≠ vD.ownBlock) (ht:some g ≠ vT.ownBlock):TMem w0 k3 gm B n vD vT W w':=by
 have o1:=h.o1;have o2:=h.o2;have o3:=h.o3;refine ⟨h.res.fr hf h.res.lt (by simp;omega),h.blk.fr hf h.blk.lt (by simp;omega),h.map.fr hf h.map.lt (by simp;omega),ownsRow_fr h.dep hf (fun q hq=>⟨(h.dep.lt q hq).2,?_⟩),ownsRow_fr h.todo hf (fun q hq=>⟨(h.todo.lt q hq).2,?_⟩),h.dis,h.fr.trans (hf.mono h.fr.size (by simp;omega)),o1,o2,o3,Nat.le_trans h.sz hf.size⟩
 · simp;rintro rfl;exact hd hq.symm
 · simp;rintro rfl;exact ht hq.symm
theorem succT_of {n:Nat} {p:Nat->Int × Int} {x:Tri} {i:Int × Int} (hi:i=p x.at_):succT n p x=(nextsF n x.at_ i).map fun t=>⟨t,x.d - takesF i.1+leavesF i.1,if i.1=14 then x.e+1 else x.e⟩:=by
 subst hi;rfl
theorem Blk.app {w w2:World} {o:Obj} {g:Nat} {t:TypeId} {cs:Array Value} {row:Option Nat} (h:Blk w g t cs) (hg:(w.alloc o).grownBy w2 row) (hne:row ≠ some g):Blk w2 g t cs :=
 (h.alloc o).grown hg (fun e=>hne e.symm)
end Go.Proofs.YtlejomlppjpchaaGreat
