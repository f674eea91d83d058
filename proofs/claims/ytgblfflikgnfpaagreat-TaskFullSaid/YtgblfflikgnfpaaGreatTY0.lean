/- Texts merged into one, for the number of files a claim may have: Chk, Tell. -/
import Derived.Test.YtgblfflikgnfpaaGreatRows
namespace Go.Proofs.YtgblfflikgnfpaaGreat
set_option maxRecDepth 100000
set_option maxHeartbeats 16000000
set_option linter.unusedVariables false
def updC {α:Type} (f:Nat->α) (i:Nat) (v:α):Nat->α:=fun j=>if j=i then v else f j
def takesF (o:Int):Int:=if o=5 \/ o=13 \/ o=14 \/ o=15 \/ o=9 \/ o=10 \/ o=11 then 1 else if o=6 \/ o=7 \/ o=8 \/ o=17 \/ o=12 then 2 else 0
def leavesF (o:Int):Int:=if o=11 \/ o=12 then 2 else if (1<=o/\o<=4) \/ (6<=o/\o<=10) \/ o=17 then 1 else 0
structure CS where
 D:Nat->Int
 E:Nat->Int
 mx:Int
 em:Int
 u0:Bool
 u1:Bool
def comeF (n:Nat) (s:CS) (t:Nat) (d e:Int):Option CS :=
 if 8 < d \/ 4 < e then none
 else if t=n then some { s with mx:=max s.mx d,em:=max s.em e }
 else if s.D t ≠ -1/\s.D t ≠ d then none
 else some { s with D:=updC s.D t d,E:=updC s.E t (max (s.E t) e),mx:=max s.mx d,em:=max s.em e }
def farF (n k:Nat) (a:Int):Nat:=min (k+1+a.toNat) n
def nextsF (n k:Nat) (i:Int × Int):List Nat :=
 if i.1=0 then [] else if i.1=16 then [farF n k i.2] else if i.1=15 then [k+1,farF n k i.2] else [k+1]
def useF (s:CS) (i:Int × Int):CS:=if i.1=4 \/ i.1=5 then (if i.2=0 then { s with u0:=true } else { s with u1:=true }) else s
def comesF (n:Nat) (d e:Int):List Nat->CS->Option CS
 | [],s=>some s
 | t :: l,s=>match comeF n s t d e with
  | none=>none
  | some s'=>comesF n d e l s'
def emF (s:CS) (k:Nat) (i:Int × Int):Int:=if i.1=14 then s.E k+1 else s.E k
def stepF (n:Nat) (p:Nat->Int × Int) (s:CS) (k:Nat):Option CS :=
 if s.D k < takesF (p k).1 then none
 else comesF n (s.D k - takesF (p k).1+leavesF (p k).1) (emF s k (p k)) (nextsF n k (p k)) (useF s (p k))
def startF (n:Nat):CS:=⟨fun j=>if n=0 then -1 else if j=0 then 0 else -1,fun _=>0,0,0,false,false⟩
def checkF (n:Nat) (p:Nat->Int × Int):Nat->Option CS
 | 0=>some (startF n)
 | k+1=>match checkF n p k with
  | none=>none
  | some s=>if s.D k = -1 then some s else stepF n p s k
structure CInv (n:Nat) (s:CS):Prop where
 d:∀ k,-1<=s.D k/\s.D k<=8
 e:∀ k,0<=s.E k/\s.E k<=4
 mx:0<=s.mx/\s.mx<=8
 em:0<=s.em/\s.em<=4
 far:∀ k,n<=k->s.D k = -1
theorem takesF_range (o:Int):0<=takesF o/\takesF o<=2:=by unfold takesF;split <;> (try split) <;> omega
theorem leavesF_range (o:Int):0<=leavesF o/\leavesF o<=2:=by unfold leavesF;split <;> (try split) <;> omega
theorem CInv.start (n:Nat):CInv n (startF n):=by
 refine ⟨fun k => ?_,fun k=>⟨Int.le_refl _,by show (0:Int)<=4;decide⟩,⟨Int.le_refl _,by show (0:Int)<=8;decide⟩,⟨Int.le_refl _,by show (0:Int)<=4;decide⟩,fun k hk => ?_⟩
 ·
  simp only [startF];split
  · omega
  · split <;> omega
 ·
  simp only [startF];split
  · rfl
  · rw [if_neg (by omega)]
theorem CInv.use {n:Nat} {s:CS} (I:CInv n s) (i:Int × Int):CInv n (useF s i):=by
 unfold useF;split
 · split <;> exact ⟨I.d,I.e,I.mx,I.em,I.far⟩
 · exact I
theorem CInv.come {n:Nat} {s s':CS} (I:CInv n s) {t:Nat} {d e:Int} (ht:t<=n) (hd:0<=d) (he:0<=e) (h:comeF n s t d e=some s'):CInv n s':=by
 unfold comeF at h;have a:=I.mx;have b:=I.em
 split at h
 · cases h
 ·
  rename_i h1
  split at h
  ·
   injection h with h;subst h
   exact ⟨I.d,I.e,by show 0<=max _ _/\max _ _<=8;omega,by show 0<=max _ _/\max _ _<=4;omega,I.far⟩
  ·
   rename_i h2
   split at h
   · cases h
   ·
    injection h with h;subst h
    refine ⟨fun k => ?_,fun k => ?_,by show 0<=max _ _/\max _ _<=8;omega,by show 0<=max _ _/\max _ _<=4;omega,fun k hk => ?_⟩
    · have:=I.d k;simp only [updC];split <;> omega
    · have:=I.e k;have:=I.e t;simp only [updC];split <;> omega
    · have:=I.far k hk;simp only [updC];rw [if_neg (by omega)];exact this
theorem CInv.comes {n:Nat} {d e:Int} (hd:0<=d) (he:0<=e):∀ (l:List Nat) {s s':CS},(∀ t ∈ l,t<=n)->CInv n s->comesF n d e l s=some s'->CInv n s'
 | [],s,s',_,I,h=>by injection h with h;subst h;exact I
 | t :: l,s,s',hl,I,h=>by
  unfold comesF at h
  split at h
  · cases h
  · rename_i s1 h1;exact CInv.comes hd he l (fun t ht=>hl t (by simp [ht])) (I.come (hl t (by simp)) hd he h1) h
theorem nextsF_le {n k:Nat} (hk:k < n) (i:Int × Int):∀ t ∈ nextsF n k i,t<=n:=by
 intro t ht;unfold nextsF farF at ht
 split at ht
 · cases ht
 ·
  split at ht
  · simp at ht;omega
  · split at ht <;> simp at ht <;> omega
theorem emF_range {n:Nat} {s:CS} (I:CInv n s) (k:Nat) (i:Int × Int):0<=emF s k i/\emF s k i<=5:=by
 have:=I.e k;unfold emF;split <;> omega
theorem CInv.step {n:Nat} {s s':CS} (I:CInv n s) {p:Nat->Int × Int} {k:Nat} (hk:k < n) (h:stepF n p s k=some s'):CInv n s':=by
 unfold stepF at h
 split at h
 · cases h
 · have:=leavesF_range (p k).1;exact CInv.comes (by omega) (emF_range I k (p k)).1 _ (nextsF_le hk _) (I.use _) h
theorem checkF_inv {n:Nat} {p:Nat->Int × Int}:∀ {m:Nat} {s:CS},m<=n->checkF n p m=some s->CInv n s
 | 0,s,_,h=>by injection h with h;subst h;exact CInv.start n
 | m+1,s,hm,h=>by
  unfold checkF at h
  split at h
  · cases h
  ·
   rename_i s1 h1;have I:=checkF_inv (by omega) h1
   split at h
   · injection h with h;subst h;exact I
   · exact I.step (by omega) h
theorem use_D (s:CS) (i:Int × Int):(useF s i).D=s.D:=by unfold useF;split;(split <;> rfl);rfl
structure Tri where
 at_:Nat
 d:Int
 e:Int
deriving DecidableEq
def succT (n:Nat) (p:Nat->Int × Int) (x:Tri):List Tri :=
 (nextsF n x.at_ (p x.at_)).map fun t=>⟨t,x.d - takesF (p x.at_).1+leavesF (p x.at_).1,if (p x.at_).1=14 then x.e+1 else x.e⟩
inductive Reach (n:Nat) (p:Nat->Int × Int):Tri->Prop
 | start:Reach n p ⟨0,0,0⟩
 | step {x y:Tri}:Reach n p x->x.at_ < n->takesF (p x.at_).1<=x.d->y ∈ succT n p x->Reach n p y
def badT (n:Nat) (p:Nat->Int × Int) (x:Tri):Prop:=8 < x.d \/ 4 < x.e \/ (x.at_ < n/\x.d < takesF (p x.at_).1)
def Fault (n:Nat) (p:Nat->Int × Int):Prop:=(∃ x,Reach n p x/\badT n p x) \/ ∃ x y,Reach n p x/\Reach n p y/\x.at_=y.at_/\x.at_ < n/\x.d ≠ y.d
structure Comp (n:Nat) (p:Nat->Int × Int) (s:CS):Prop where
 d:∀ k,s.D k ≠ -1->Reach n p ⟨k,s.D k,s.E k⟩
 e:∀ k,s.D k = -1->s.E k=0
 mx:∃ x,Reach n p x/\x.d=s.mx
 em:∃ x,Reach n p x/\x.e=s.em
theorem Comp.start (n:Nat) (p:Nat->Int × Int):Comp n p (startF n):=by
 refine ⟨fun k hk => ?_,fun _ _=>rfl,⟨_,.start,rfl⟩,⟨_,.start,rfl⟩⟩;simp only [startF] at hk ⊢
 split at hk
 · exact absurd rfl hk
 ·
  split at hk
  · rename_i h1 h2;subst h2;rw [if_neg h1,if_pos rfl];exact .start
  · exact absurd rfl hk
theorem Comp.use {n:Nat} {p:Nat->Int × Int} {s:CS} (C:Comp n p s) (i:Int × Int):Comp n p (useF s i):=by
 unfold useF;split
 · split <;> exact ⟨C.d,C.e,C.mx,C.em⟩
 · exact C
theorem Comp.come {n:Nat} {p:Nat->Int × Int} {s:CS} (C:Comp n p s) {t:Nat} {d e:Int} (ht:t<=n) (hd:0<=d) (he:0<=e) (hr:Reach n p ⟨t,d,e⟩):(comeF n s t d e=none->Fault n p) /\ ∀ s',comeF n s t d e=some s'->Comp n p s':=by
 have mxx:∃ x,Reach n p x/\x.d=max s.mx d:=by
  obtain ⟨x,h1,h2⟩:=C.mx
  by_cases c:d<=s.mx
  · exact ⟨x,h1,by omega⟩
  · exact ⟨_,hr,by show d=max s.mx d;omega⟩
 have emx:∃ x,Reach n p x/\x.e=max s.em e:=by
  obtain ⟨x,h1,h2⟩:=C.em
  by_cases c:e<=s.em
  · exact ⟨x,h1,by omega⟩
  · exact ⟨_,hr,by show e=max s.em e;omega⟩
 unfold comeF
 by_cases h1:8 < d \/ 4 < e
 ·
  rw [if_pos h1];refine ⟨fun _=>.inl ⟨_,hr,?_⟩,fun _ h=>(nomatch h)⟩
  rcases h1 with h | h
  · exact .inl h
  · exact .inr (.inl h)
 ·
  rw [if_neg h1]
  by_cases h2:t=n
  ·
   rw [if_pos h2];refine ⟨fun h=>(nomatch h),fun s' h => ?_⟩;injection h with h;subst h
   exact ⟨C.d,C.e,mxx,emx⟩
  ·
   rw [if_neg h2]
   by_cases h3:s.D t ≠ -1/\s.D t ≠ d
   · rw [if_pos h3];exact ⟨fun _=>.inr ⟨_,_,C.d t h3.1,hr,rfl,by show t < n;omega,h3.2⟩,fun _ h=>(nomatch h)⟩
   ·
    rw [if_neg h3];refine ⟨fun h=>(nomatch h),fun s' h => ?_⟩;injection h with h;subst h
    refine ⟨fun k hk => ?_,fun k hk => ?_,mxx,emx⟩
    ·
     simp only [updC] at hk ⊢
     by_cases c:k=t
     ·
      subst c;rw [if_pos rfl,if_pos rfl]
      by_cases c1:s.D k = -1
      · rw [C.e k c1,show max 0 e=e by omega];exact hr
      ·
       have c2:s.D k=d:=by
        by_cases c2:s.D k=d
        · exact c2
        · exact absurd ⟨c1,c2⟩ h3
       by_cases c4:e<=s.E k
       · rw [show max (s.E k) e=s.E k by omega,<- c2];exact C.d k c1
       · rw [show max (s.E k) e=e by omega];exact hr
     · rw [if_neg c] at hk;rw [if_neg c,if_neg c];exact C.d k hk
    ·
     simp only [updC] at hk ⊢
     by_cases c:k=t
     · rw [if_pos c] at hk;omega
     · rw [if_neg c] at hk;rw [if_neg c];exact C.e k hk
theorem Comp.comes {n:Nat} {p:Nat->Int × Int} {d e:Int} (hd:0<=d) (he:0<=e):∀ (l:List Nat) {s:CS},Comp n p s->(∀ t ∈ l,t<=n/\Reach n p ⟨t,d,e⟩)->(comesF n d e l s=none->Fault n p) /\ ∀ s',comesF n d e l s=some s'->Comp n p s'
 | [],s,C,_=>⟨fun h=>(nomatch h),fun s' h=>by injection h with h;subst h;exact C⟩
 | t :: l,s,C,hl=>by
  obtain ⟨h1,h2⟩:=hl t (by simp);obtain ⟨a,b⟩:=C.come h1 hd he h2;unfold comesF
  split
  · rename_i h;exact ⟨fun _=>a h,fun _ h=>(nomatch h)⟩
  · rename_i s2 h;exact Comp.comes hd he l (b s2 h) (fun t ht=>hl t (by simp [ht]))
theorem Comp.step {n:Nat} {p:Nat->Int × Int} {s:CS} (C:Comp n p s) (I:CInv n s) {k:Nat} (hk:k < n) (hD:s.D k ≠ -1):(stepF n p s k=none->Fault n p) /\ ∀ s',stepF n p s k=some s'->Comp n p s':=by
 have hr:=C.d k hD;have di:=I.d k;have lr:=leavesF_range (p k).1;unfold stepF
 by_cases h1:s.D k < takesF (p k).1
 · rw [if_pos h1];exact ⟨fun _=>.inl ⟨_,hr,.inr (.inr ⟨hk,h1⟩)⟩,fun _ h=>(nomatch h)⟩
 · rw [if_neg h1];refine Comp.comes (by omega) (emF_range I k (p k)).1 _ (C.use (p k)) (fun t ht=>⟨nextsF_le hk _ t ht,?_⟩);refine .step hr hk (by show takesF (p k).1<=s.D k;omega) ?_;unfold succT;rw [List.mem_map];exact ⟨t,ht,rfl⟩
theorem check_comp {n:Nat} {p:Nat->Int × Int}:∀ {m:Nat},m<=n->(checkF n p m=none->Fault n p) /\ ∀ s,checkF n p m=some s->Comp n p s
 | 0,_=>⟨fun h=>(nomatch h),fun s h=>by injection h with h;subst h;exact Comp.start n p⟩
 | m+1,hm=>by
  obtain ⟨a,b⟩:=check_comp (n:=n) (p:=p) (m:=m) (by omega);unfold checkF
  split
  · rename_i h;exact ⟨fun _=>a h,fun _ h=>(nomatch h)⟩
  ·
   rename_i s h;have C:=b s h
   by_cases h2:s.D m = -1
   · simp only [if_pos h2];exact ⟨fun h=>(nomatch h),fun s' h=>by injection h with h;subst h;exact C⟩
   · simp only [if_neg h2];exact C.step (checkF_inv (by omega) h) (by omega) h2
structure Grew (s s':CS):Prop where
 d:∀ k,s.D k ≠ -1->s'.D k=s.D k
 e:∀ k,s.E k<=s'.E k
 mx:s.mx<=s'.mx
 em:s.em<=s'.em
 u0:s.u0=true->s'.u0=true
 u1:s.u1=true->s'.u1=true
theorem Grew.refl (s:CS):Grew s s:=⟨fun _ _=>rfl,fun _=>Int.le_refl _,Int.le_refl _,Int.le_refl _,id,id⟩
theorem Grew.trans {a b c:CS} (h:Grew a b) (k:Grew b c):Grew a c :=
 ⟨fun x hx=>by rw [k.d x (by rw [h.d x hx];exact hx),h.d x hx],fun x=>Int.le_trans (h.e x) (k.e x),Int.le_trans h.mx k.mx,Int.le_trans h.em k.em,fun x=>k.u0 (h.u0 x),fun x=>k.u1 (h.u1 x)⟩
theorem Grew.come {n:Nat} {s s':CS} {t:Nat} {d e:Int} (h:comeF n s t d e=some s'):Grew s s':=by
 unfold comeF at h
 split at h
 · cases h
 ·
  split at h
  ·
   injection h with h;subst h
   exact ⟨fun _ _=>rfl,fun _=>Int.le_refl _,by show s.mx<=max _ _;omega,by show s.em<=max _ _;omega,id,id⟩
  ·
   split at h
   · cases h
   ·
    rename_i h3;injection h with h;subst h
    refine ⟨fun k hk => ?_,fun k => ?_,by show s.mx<=max _ _;omega,by show s.em<=max _ _;omega,id,id⟩
    ·
     simp only [updC]
     by_cases c:k=t
     ·
      subst c;rw [if_pos rfl]
      by_cases c2:s.D k=d
      · exact c2.symm
      · exact absurd ⟨hk,c2⟩ h3
     · rw [if_neg c]
    ·
     simp only [updC]
     by_cases c:k=t
     · subst c;rw [if_pos rfl];omega
     · rw [if_neg c];exact Int.le_refl _
theorem Grew.comes {n:Nat} {d e:Int}:∀ (l:List Nat) {s s':CS},comesF n d e l s=some s'->Grew s s'
 | [],s,s',h=>by injection h with h;subst h;exact Grew.refl s
 | t :: l,s,s',h=>by
  unfold comesF at h
  split at h
  · cases h
  · rename_i s2 h2;exact (Grew.come h2).trans (Grew.comes l h)
theorem Grew.use (s:CS) (i:Int × Int):Grew s (useF s i):=by
 unfold useF;split
 · split <;> exact ⟨fun _ _=>rfl,fun _=>Int.le_refl _,Int.le_refl _,Int.le_refl _,(fun h=>by simp [h]),(fun h=>by simp [h])⟩
 · exact Grew.refl s
theorem Grew.step {n:Nat} {p:Nat->Int × Int} {s s':CS} {k:Nat} (h:stepF n p s k=some s'):Grew s s':=by
 unfold stepF at h
 split at h
 · cases h
 · exact (Grew.use s (p k)).trans (Grew.comes _ h)
theorem Grew.check {n:Nat} {p:Nat->Int × Int}:∀ {m k:Nat} {s s':CS},k<=m->checkF n p k=some s->checkF n p m=some s'->Grew s s'
 | 0,k,s,s',hk,h,h1=>by
  obtain rfl:k=0:=by omega
  rw [h] at h1;injection h1 with h1;subst h1;exact Grew.refl s
 | m+1,k,s,s',hk,h,h1=>by
  by_cases he:k=m+1
  · subst he;rw [h] at h1;injection h1 with h1;subst h1;exact Grew.refl s
  ·
   unfold checkF at h1
   split at h1
   · cases h1
   ·
    rename_i s2 h2;have a:=Grew.check (by omega) h h2
    split at h1
    · injection h1 with h1;subst h1;exact a
    · exact a.trans (Grew.step h1)
theorem come_off {n:Nat} {s s':CS} {t:Nat} {d e:Int} (h:comeF n s t d e=some s') (k:Nat) (hk:k ≠ t):s'.D k=s.D k/\s'.E k=s.E k:=by
 unfold comeF at h
 split at h
 · cases h
 ·
  split at h
  · injection h with h;subst h;exact ⟨rfl,rfl⟩
  ·
   split at h
   · cases h
   ·
    injection h with h;subst h
    simp only [updC];rw [if_neg hk,if_neg hk];exact ⟨rfl,rfl⟩
theorem comes_off {n:Nat} {d e:Int} (k:Nat):∀ (l:List Nat) {s s':CS},(∀ t ∈ l,k ≠ t)->comesF n d e l s=some s'->s'.D k=s.D k/\s'.E k=s.E k
 | [],s,s',_,h=>by injection h with h;subst h;exact ⟨rfl,rfl⟩
 | t :: l,s,s',hl,h=>by
  unfold comesF at h
  split at h
  · cases h
  · rename_i s2 h2;obtain ⟨a,b⟩:=come_off h2 k (hl t (by simp));obtain ⟨c,d⟩:=comes_off k l (fun t ht=>hl t (by simp [ht])) h;exact ⟨c.trans a,d.trans b⟩
theorem come_knows {n:Nat} {s s':CS} {t:Nat} {d e:Int} (h:comeF n s t d e=some s') (_:t<=n):(t < n->s'.D t=d/\e<=s'.E t)/\d<=s'.mx/\e<=s'.em/\d<=8/\e<=4:=by
 unfold comeF at h
 split at h
 · cases h
 ·
  rename_i h1
  split at h
  ·
   injection h with h;subst h
   exact ⟨fun _=>by omega,by show d<=max _ _;omega,by show e<=max _ _;omega,by omega,by omega⟩
  ·
   split at h
   · cases h
   ·
    injection h with h;subst h
    refine ⟨fun _ => ?_,by show d<=max _ _;omega,by show e<=max _ _;omega,by omega,by omega⟩;simp only [updC];rw [if_pos trivial,if_pos trivial];exact ⟨rfl,by omega⟩
theorem comes_knows {n:Nat} {d e:Int} (hd:0<=d):∀ (l:List Nat) {s s':CS},(∀ t ∈ l,t<=n)->comesF n d e l s=some s' -> ∀ t ∈ l,(t < n->s'.D t=d/\e<=s'.E t)/\d<=s'.mx/\e<=s'.em/\d<=8/\e<=4
 | [],_,_,_,_,t,ht=>by cases ht
 | x :: l,s,s',hl,h,t,ht=>by
  unfold comesF at h
  split at h
  · cases h
  ·
   rename_i s2 h2;have G:=Grew.comes l h
   rcases List.mem_cons.1 ht with rfl | ht
   · obtain ⟨a,b,c,d1,d2⟩:=come_knows h2 (hl t (by simp));refine ⟨fun hn => ?_,Int.le_trans b G.mx,Int.le_trans c G.em,d1,d2⟩;obtain ⟨a1,a2⟩:=a hn;exact ⟨by rw [G.d t (by omega),a1],Int.le_trans a2 (G.e t)⟩
   · exact comes_knows hd l (fun t ht=>hl t (by simp [ht])) h t ht
theorem later_off {n:Nat} {p:Nat->Int × Int} (hgt:∀ k,k < n -> ∀ t ∈ nextsF n k (p k),k < t):∀ {m k:Nat} {s s':CS},k<=m->m<=n->checkF n p k=some s->checkF n p m=some s'->s'.D k=s.D k/\s'.E k=s.E k
 | 0,k,s,s',hk,_,h,h1=>by
  obtain rfl:k=0:=by omega
  rw [h] at h1;injection h1 with h1;subst h1;exact ⟨rfl,rfl⟩
 | m+1,k,s,s',hk,hm,h,h1=>by
  by_cases he:k=m+1
  · subst he;rw [h] at h1;injection h1 with h1;subst h1;exact ⟨rfl,rfl⟩
  ·
   unfold checkF at h1
   split at h1
   · cases h1
   ·
    rename_i s2 h2;obtain ⟨a,b⟩:=later_off hgt (by omega) (by omega) h h2
    split at h1
    · injection h1 with h1;subst h1;exact ⟨a,b⟩
    ·
     unfold stepF at h1
     split at h1
     · cases h1
     ·
      obtain ⟨c,d⟩:=comes_off k _ (fun t ht=>by have:=hgt m (by omega) t ht;omega) h1
      obtain ⟨_,_,u3,u4⟩:(useF s2 (p m)).em=s2.em/\(useF s2 (p m)).mx=s2.mx/\(useF s2 (p m)).E=s2.E/\(useF s2 (p m)).D=s2.D:=by
       unfold useF;split;(split <;> exact ⟨rfl,rfl,rfl,rfl⟩);exact ⟨rfl,rfl,rfl,rfl⟩
      rw [c,d,u3,u4];exact ⟨a,b⟩
theorem stepped {n:Nat} {p:Nat->Int × Int} (hgt:∀ k,k < n -> ∀ t ∈ nextsF n k (p k),k < t) {s:CS} (h:checkF n p n=some s) {k:Nat} (hk:k < n) (hD:s.D k ≠ -1) :
  ∃ sk s1,checkF n p k=some sk/\sk.D k=s.D k/\sk.E k=s.E k/\stepF n p sk k=some s1/\Grew s1 s:=by
 have pre:∀ m,m<=n->∃ sm,checkF n p m=some sm:=by
  intro m hm
  cases hc:checkF n p m with
  | some sm=>exact ⟨sm,rfl⟩
  | none =>
   have:∀ d,checkF n p (m+d)=none:=by
    intro d
    induction d with
    | zero=>exact hc
    | succ d ih=>show checkF n p (m+d+1)=none;unfold checkF;rw [ih]
   have:=this (n - m);rw [show m+(n - m)=n by omega,h] at this
   cases this
 obtain ⟨sk,h1⟩:=pre k (by omega);obtain ⟨s2,h2⟩:=pre (k+1) (by omega);obtain ⟨a,b⟩:=later_off hgt (by omega) (Nat.le_refl _) h1 h;have h3:=h2;unfold checkF at h3;rw [h1] at h3;simp only at h3;rw [if_neg (by rw [<- a];exact hD)] at h3;exact ⟨sk,s2,h1,a.symm,b.symm,h3,Grew.check (by omega) h2 h⟩
structure Sound (n:Nat) (p:Nat->Int × Int) (s:CS) (x:Tri):Prop where
 at_:x.at_<=n
 d:0<=x.d/\x.d<=8
 e:0<=x.e/\x.e<=4
 in_:x.at_ < n->s.D x.at_=x.d/\x.e<=s.E x.at_/\takesF (p x.at_).1<=x.d
 mx:x.d<=s.mx
 em:x.e<=s.em
theorem takes_ok {n:Nat} {p:Nat->Int × Int} (hgt:∀ k,k < n -> ∀ t ∈ nextsF n k (p k),k < t) {s:CS} (h:checkF n p n=some s) {k:Nat} (hk:k < n) (hD:s.D k ≠ -1):takesF (p k).1<=s.D k:=by
 obtain ⟨sk,s1,_,h2,_,h4,_⟩:=stepped hgt h hk hD;unfold stepF at h4
 split at h4
 · cases h4
 · omega
theorem sound {n:Nat} {p:Nat->Int × Int} (hgt:∀ k,k < n -> ∀ t ∈ nextsF n k (p k),k < t) {s:CS} (h:checkF n p n=some s) {x:Tri} (hx:Reach n p x):Sound n p s x:=by
 induction hx with
 | start =>
  have G:=Grew.check (Nat.zero_le n) (show checkF n p 0=some (startF n) from rfl) h;have I:=checkF_inv (Nat.le_refl _) h;refine ⟨Nat.zero_le _,⟨Int.le_refl _,by show (0:Int)<=8;decide⟩,⟨Int.le_refl _,by show (0:Int)<=4;decide⟩,fun hn => ?_,I.mx.1,I.em.1⟩
  have h0:(startF n).D 0=0:=by
   show (if n=0 then (-1:Int) else if 0=0 then 0 else -1)=0
   rw [if_neg (by intro e;subst e;exact absurd hn (by show ¬ 0 < 0;omega)),if_pos rfl]
  have hD:s.D 0=0:=(by rw [G.d 0 (by rw [h0];decide),h0]);have ht:=takes_ok hgt h hn (by show s.D 0 ≠ -1;rw [hD];decide);exact ⟨hD,(I.e 0).1,by show takesF (p 0).1<=0;rw [<- hD];exact ht⟩
 | @step x y hx hat htk hy ih =>
  obtain ⟨d1,d2,d3⟩:=ih.in_ hat;have dd:=ih.d;have ee:=ih.e;obtain ⟨sk,s1,g1,g2,g3,g4,G⟩:=stepped hgt h hat (by omega);have Ik:=checkF_inv (by omega) g1;unfold succT at hy;obtain ⟨t,ht,rfl⟩:=List.mem_map.1 hy;have htn:=nextsF_le hat (p x.at_) t ht;have lr:=leavesF_range (p x.at_).1;have hE0:0<=(if (p x.at_).1=14 then x.e+1 else x.e):=by split <;> omega
  have hge:(if (p x.at_).1=14 then x.e+1 else x.e)<=emF sk x.at_ (p x.at_):=by
   unfold emF;split <;> omega
  unfold stepF at g4;rw [if_neg (by omega)] at g4;obtain ⟨k1,k2,k3,k4,k5⟩:=comes_knows (by omega) _ (nextsF_le hat (p x.at_)) g4 t ht;rw [g2,d1] at k1 k2 k4;refine ⟨htn,⟨by show 0<=x.d - _+_;omega,k4⟩,⟨hE0,Int.le_trans hge k5⟩,fun hn => ?_,Int.le_trans k2 G.mx,Int.le_trans (Int.le_trans hge k3) G.em⟩;obtain ⟨m1,m2⟩:=k1 hn;have hDt:s.D t=x.d - takesF (p x.at_).1+leavesF (p x.at_).1:=(by rw [G.d t (by omega),m1]);have:=takes_ok hgt h hn (show s.D t ≠ -1 by omega);exact ⟨hDt,Int.le_trans hge (Int.le_trans m2 (G.e t)),by show takesF (p t).1<=_;rw [<- hDt];exact this⟩
theorem comes_u {n:Nat} {d e:Int}:∀ (l:List Nat) {s s':CS},comesF n d e l s=some s'->s'.u0=s.u0/\s'.u1=s.u1
 | [],s,s',h=>by injection h with h;subst h;exact ⟨rfl,rfl⟩
 | t :: l,s,s',h=>by
  unfold comesF at h
  split at h
  · cases h
  ·
   rename_i s2 h2;obtain ⟨a,b⟩:=comes_u l h
   have:s2.u0=s.u0/\s2.u1=s.u1:=by
    unfold comeF at h2
    split at h2
    · cases h2
    ·
     split at h2
     · injection h2 with h2;subst h2;exact ⟨rfl,rfl⟩
     ·
      split at h2
      · cases h2
      · injection h2 with h2;subst h2;exact ⟨rfl,rfl⟩
   rw [a,b,this.1,this.2];exact ⟨rfl,rfl⟩
def usesAt (i:Int × Int) (z:Bool):Prop:=(i.1=4 \/ i.1=5)/\(if z then i.2=0 else i.2 ≠ 0)
theorem useF_u (s:CS) (i:Int × Int):((useF s i).u0=true ↔ s.u0=true \/ usesAt i true)/\((useF s i).u1=true ↔ s.u1=true \/ usesAt i false):=by
 unfold useF usesAt
 by_cases h:i.1=4 \/ i.1=5
 ·
  rw [if_pos h]
  by_cases h2:i.2=0
  · rw [if_pos h2];simp [h,h2]
  · rw [if_neg h2];simp [h,h2]
 · rw [if_neg h];simp [h]
theorem check_u {n:Nat} {p:Nat->Int × Int}:∀ {m:Nat} {s:CS},m<=n->checkF n p m=some s->(s.u0=true->∃ k,k < m/\s.D k ≠ -1/\usesAt (p k) true)/\(s.u1=true->∃ k,k < m/\s.D k ≠ -1/\usesAt (p k) false)
 | 0,s,_,h=>by injection h with h;subst h;exact ⟨fun h=>(nomatch h),fun h=>(nomatch h)⟩
 | m+1,s,hm,h=>by
  unfold checkF at h
  split at h
  · cases h
  ·
   rename_i s1 h1;obtain ⟨a,b⟩:=check_u (by omega) h1
   split at h
   ·
    injection h with h;subst h
    exact ⟨fun x=>by obtain ⟨k,k1,k2⟩:=a x;exact ⟨k,by omega,k2⟩,fun x=>by obtain ⟨k,k1,k2⟩:=b x;exact ⟨k,by omega,k2⟩⟩
   ·
    rename_i h2;have G:=Grew.step h
    have hs:s.u0=(useF s1 (p m)).u0/\s.u1=(useF s1 (p m)).u1:=by
     unfold stepF at h
     split at h
     · cases h
     · exact comes_u _ h
    obtain ⟨w0,w1⟩:=useF_u s1 (p m);refine ⟨fun x => ?_,fun x => ?_⟩
    ·
     rw [hs.1] at x
     rcases w0.1 x with x | x
     · obtain ⟨k,k1,k2,k3⟩:=a x;exact ⟨k,by omega,by rw [G.d k k2];exact k2,k3⟩
     · exact ⟨m,by omega,by rw [G.d m h2];exact h2,x⟩
    ·
     rw [hs.2] at x
     rcases w1.1 x with x | x
     · obtain ⟨k,k1,k2,k3⟩:=b x;exact ⟨k,by omega,by rw [G.d k k2];exact k2,k3⟩
     · exact ⟨m,by omega,by rw [G.d m h2];exact h2,x⟩
theorem check_u' {n:Nat} {p:Nat->Int × Int} (hgt:∀ k,k < n -> ∀ t ∈ nextsF n k (p k),k < t) {s:CS} (h:checkF n p n=some s) {k:Nat} (hk:k < n) (hD:s.D k ≠ -1):(usesAt (p k) true->s.u0=true)/\(usesAt (p k) false->s.u1=true):=by
 obtain ⟨sk,s1,_,_,_,g4,G⟩:=stepped hgt h hk hD
 have hs:s1.u0=(useF sk (p k)).u0/\s1.u1=(useF sk (p k)).u1:=by
  unfold stepF at g4
  split at g4
  · cases g4
  · exact comes_u _ g4
 obtain ⟨w0,w1⟩:=useF_u sk (p k);exact ⟨fun x=>G.u0 (by rw [hs.1];exact w0.2 (.inr x)),fun x=>G.u1 (by rw [hs.2];exact w1.2 (.inr x))⟩
structure WS where
 D:Nat->Int
 mx:Int
 em:Int
 u0:Bool
 u1:Bool
 met:List Tri
 todo:List Tri
def useW (u:Bool) (i:Int × Int) (z:Bool):Bool:=u || decide ((i.1=4 \/ i.1=5)/\(if z then i.2=0 else i.2 ≠ 0))
theorem useW_iff (u:Bool) (i:Int × Int) (z:Bool):useW u i z=true ↔ u=true \/ usesAt i z:=by
 unfold useW usesAt;rw [Bool.or_eq_true,decide_eq_true_eq]
inductive WRun (n:Nat) (p:Nat->Int × Int):WS->Prop
 | start:WRun n p ⟨fun _ => -1,0,0,false,false,[],[⟨0,0,0⟩]⟩
 | skip {W:WS} {td:List Tri} {x:Tri}:WRun n p W->W.todo=td ++ [x]->x ∈ W.met->WRun n p { W with todo:=td }
 | out {W:WS} {td:List Tri} {x:Tri}:WRun n p W->W.todo=td ++ [x]->x ∉ W.met->x.d<=8->x.e<=4->n<=x.at_->WRun n p { W with todo:=td,met:=W.met ++ [x],mx:=max W.mx x.d,em:=max W.em x.e }
 | on {W:WS} {td:List Tri} {x:Tri}:WRun n p W->W.todo=td ++ [x]->x ∉ W.met->x.d<=8->x.e<=4->x.at_ < n->¬ (0<=W.D x.at_/\W.D x.at_ ≠ x.d)->takesF (p x.at_).1<=x.d ->
   WRun n p ⟨updC W.D x.at_ x.d,max W.mx x.d,max W.em x.e,useW W.u0 (p x.at_) true,useW W.u1 (p x.at_) false,W.met ++ [x],td ++ succT n p x⟩
structure WInv (n:Nat) (p:Nat->Int × Int) (W:WS):Prop where
 reach:∀ x,x ∈ W.met \/ x ∈ W.todo->Reach n p x/\x.at_<=n/\0<=x.d/\x.d<=10/\0<=x.e/\x.e<=5
 start:(⟨0,0,0⟩:Tri) ∈ W.met \/ (⟨0,0,0⟩:Tri) ∈ W.todo
 ok:∀ x ∈ W.met,x.d<=8/\x.e<=4/\(x.at_ < n->W.D x.at_=x.d/\takesF (p x.at_).1<=x.d /\ ∀ y ∈ succT n p x,y ∈ W.met \/ y ∈ W.todo)
 D:∀ k,W.D k = -1 \/ ∃ x ∈ W.met,x.at_=k/\k < n/\x.d=W.D k
 mx:(∀ x ∈ W.met,x.d<=W.mx)/\(W.mx=0 \/ ∃ x ∈ W.met,x.d=W.mx)/\0<=W.mx/\W.mx<=8
 em:(∀ x ∈ W.met,x.e<=W.em)/\(W.em=0 \/ ∃ x ∈ W.met,x.e=W.em)/\0<=W.em/\W.em<=4
 u0:W.u0=true ↔ ∃ x ∈ W.met,x.at_ < n/\usesAt (p x.at_) true
 u1:W.u1=true ↔ ∃ x ∈ W.met,x.at_ < n/\usesAt (p x.at_) false
theorem succT_range {n:Nat} {p:Nat->Int × Int} {x y:Tri} (hx:x.at_ < n) (hd:0<=x.d/\x.d<=8) (he:0<=x.e/\x.e<=4) (htk:takesF (p x.at_).1<=x.d) (hy:y ∈ succT n p x):y.at_<=n/\0<=y.d/\y.d<=10/\0<=y.e/\y.e<=5:=by
 unfold succT at hy;obtain ⟨t,ht,rfl⟩:=List.mem_map.1 hy;have a:=takesF_range (p x.at_).1;have b:=leavesF_range (p x.at_).1;have c:0<=(if (p x.at_).1=14 then x.e+1 else x.e)/\(if (p x.at_).1=14 then x.e+1 else x.e)<=5:=by split <;> omega
 exact ⟨nextsF_le hx _ t ht,by show 0<=x.d - _+_;omega,by show x.d - _+_<=10;omega,c.1,c.2⟩
theorem max_attained {L:List Tri} {f:Tri->Int} {m:Int} (h:(∀ x ∈ L,f x<=m)/\(m=0 \/ ∃ x ∈ L,f x=m)) (x:Tri) (_:0<=f x):(∀ y ∈ L ++ [x],f y<=max m (f x))/\(max m (f x)=0 \/ ∃ y ∈ L ++ [x],f y=max m (f x)):=by
 refine ⟨fun y hy => ?_,?_⟩
 ·
  rcases List.mem_append.1 hy with hy | hy
  · have:=h.1 y hy;omega
  · rw [List.mem_singleton.1 hy];omega
 ·
  by_cases c:f x<=m
  ·
   rw [show max m (f x)=m by omega]
   rcases h.2 with h | ⟨y,h1,h2⟩
   · exact .inl h
   · exact .inr ⟨y,by simp [h1],h2⟩
  · exact .inr ⟨x,by simp,by omega⟩
theorem WRun.inv {n:Nat} {p:Nat->Int × Int} {W:WS} (h:WRun n p W):WInv n p W:=by
 induction h with
 | start =>
  refine ⟨fun x hx => ?_,.inr (by simp),fun x hx=>(by cases hx),fun _=>.inl rfl,⟨fun x hx=>(by cases hx),.inl rfl,Int.le_refl _,by show (0:Int)<=8;decide⟩,⟨fun x hx=>(by cases hx),.inl rfl,Int.le_refl _,by show (0:Int)<=4;decide⟩,⟨fun h=>(nomatch h),fun ⟨x,hx,_⟩=>(by cases hx)⟩,⟨fun h=>(nomatch h),fun ⟨x,hx,_⟩=>(by cases hx)⟩⟩
  rcases hx with hx | hx
  · cases hx
  · rw [List.mem_singleton.1 hx];exact ⟨.start,Nat.zero_le _,Int.le_refl _,by show (0:Int)<=10;decide,Int.le_refl _,by show (0:Int)<=5;decide⟩
 | @skip W td x h ht hm I =>
  have sub:∀ y,y ∈ W.met \/ y ∈ W.todo->y ∈ W.met \/ y ∈ td:=by
   intro y hy
   rcases hy with hy | hy
   · exact .inl hy
   ·
    rw [ht] at hy
    rcases List.mem_append.1 hy with hy | hy
    · exact .inr hy
    · rw [List.mem_singleton.1 hy];exact .inl hm
  refine ⟨fun y hy=>I.reach y ?_,sub _ I.start,fun y hy => ?_,I.D,I.mx,I.em,I.u0,I.u1⟩
  ·
   rcases hy with hy | hy
   · exact .inl hy
   · exact .inr (by rw [ht];simp [hy])
  · obtain ⟨a,b,c⟩:=I.ok y hy;exact ⟨a,b,fun hn=>by obtain ⟨c1,c2,c3⟩:=c hn;exact ⟨c1,c2,fun z hz=>sub z (c3 z hz)⟩⟩
 | @out W td x h ht hm hd he hn I =>
  have sub:∀ y,y ∈ W.met \/ y ∈ W.todo->y ∈ W.met ++ [x] \/ y ∈ td:=by
   intro y hy
   rcases hy with hy | hy
   · exact .inl (by simp [hy])
   ·
    rw [ht] at hy
    rcases List.mem_append.1 hy with hy | hy
    · exact .inr hy
    · exact .inl (by rw [List.mem_singleton.1 hy];simp)
  have hrx:=I.reach x (.inr (by rw [ht];simp));refine ⟨fun y hy => ?_,sub _ I.start,fun y hy => ?_,fun k => ?_,?_,?_,?_,?_⟩
  ·
   rcases hy with hy | hy
   ·
    rcases List.mem_append.1 hy with hy | hy
    · exact I.reach y (.inl hy)
    · rw [List.mem_singleton.1 hy];exact hrx
   · exact I.reach y (.inr (by rw [ht];simp [hy]))
  ·
   rcases List.mem_append.1 hy with hy | hy
   · obtain ⟨a,b,c⟩:=I.ok y hy;exact ⟨a,b,fun hn=>by obtain ⟨c1,c2,c3⟩:=c hn;exact ⟨c1,c2,fun z hz=>sub z (c3 z hz)⟩⟩
   · rw [List.mem_singleton.1 hy];exact ⟨hd,he,fun h=>by omega⟩
  ·
   rcases I.D k with h | ⟨y,h1,h2⟩
   · exact .inl h
   · exact .inr ⟨y,by simp [h1],h2⟩
  · obtain ⟨a,b⟩:=max_attained (f:=Tri.d) ⟨I.mx.1,I.mx.2.1⟩ x hrx.2.2.1;have:=I.mx.2.2;exact ⟨a,b,by show 0<=max _ _;omega,by show max _ _<=8;omega⟩
  · obtain ⟨a,b⟩:=max_attained (f:=Tri.e) ⟨I.em.1,I.em.2.1⟩ x hrx.2.2.2.2.1;have:=I.em.2.2;exact ⟨a,b,by show 0<=max _ _;omega,by show max _ _<=4;omega⟩
  ·
   refine ⟨fun h => ?_,fun ⟨y,h1,h2,h3⟩ => ?_⟩
   · obtain ⟨y,h1,h2⟩:=I.u0.1 h;exact ⟨y,by simp [h1],h2⟩
   ·
    rcases List.mem_append.1 h1 with h1 | h1
    · exact I.u0.2 ⟨y,h1,h2,h3⟩
    · rw [List.mem_singleton.1 h1] at h2;omega
  ·
   refine ⟨fun h => ?_,fun ⟨y,h1,h2,h3⟩ => ?_⟩
   · obtain ⟨y,h1,h2⟩:=I.u1.1 h;exact ⟨y,by simp [h1],h2⟩
   ·
    rcases List.mem_append.1 h1 with h1 | h1
    · exact I.u1.2 ⟨y,h1,h2,h3⟩
    · rw [List.mem_singleton.1 h1] at h2;omega
 | @on W td x h ht hm hd he hn hc htk I =>
  have hrx:=I.reach x (.inr (by rw [ht];simp))
  have sub:∀ y,y ∈ W.met \/ y ∈ W.todo->y ∈ W.met ++ [x] \/ y ∈ td ++ succT n p x:=by
   intro y hy
   rcases hy with hy | hy
   · exact .inl (by simp [hy])
   ·
    rw [ht] at hy
    rcases List.mem_append.1 hy with hy | hy
    · exact .inr (by simp [hy])
    · exact .inl (by rw [List.mem_singleton.1 hy];simp)
  have hDx:W.D x.at_ = -1 \/ W.D x.at_=x.d:=by
   rcases I.D x.at_ with h | ⟨y,h1,_,_,h2⟩
   · exact .inl h
   ·
    have:=(I.reach y (.inl h1)).2.2.1
    by_cases c:W.D x.at_=x.d
    · exact .inr c
    · exact absurd ⟨by omega,c⟩ hc
  refine ⟨fun y hy => ?_,sub _ I.start,fun y hy => ?_,fun k => ?_,?_,?_,?_,?_⟩
  ·
   rcases hy with hy | hy
   ·
    rcases List.mem_append.1 hy with hy | hy
    · exact I.reach y (.inl hy)
    · rw [List.mem_singleton.1 hy];exact hrx
   ·
    rcases List.mem_append.1 hy with hy | hy
    · exact I.reach y (.inr (by rw [ht];simp [hy]))
    · exact ⟨.step hrx.1 hn htk hy,succT_range hn ⟨hrx.2.2.1,hd⟩ ⟨hrx.2.2.2.2.1,he⟩ htk hy⟩
  ·
   rcases List.mem_append.1 hy with hy | hy
   ·
    obtain ⟨a,b,c⟩:=I.ok y hy;refine ⟨a,b,fun hn => ?_⟩;obtain ⟨c1,c2,c3⟩:=c hn;refine ⟨?_,c2,fun z hz=>sub z (c3 z hz)⟩
    show updC W.D x.at_ x.d y.at_=y.d
    unfold updC
    by_cases e:y.at_=x.at_
    · rw [if_pos e];rw [e] at c1;have:=(I.reach y (.inl hy)).2.2.1;omega
    · rw [if_neg e];exact c1
   ·
    rw [List.mem_singleton.1 hy];refine ⟨hd,he,fun _=>⟨?_,htk,fun z hz=>.inr (by simp [hz])⟩⟩
    show updC W.D x.at_ x.d x.at_=x.d
    unfold updC;rw [if_pos rfl]
  ·
   show updC W.D x.at_ x.d k = -1 \/ ∃ y ∈ W.met ++ [x],y.at_=k/\k < n/\y.d=updC W.D x.at_ x.d k
   unfold updC
   by_cases e:k=x.at_
   · subst e;exact .inr ⟨x,by simp,rfl,hn,by rw [if_pos rfl]⟩
   ·
    rw [if_neg e]
    rcases I.D k with h | ⟨y,h1,h2⟩
    · exact .inl h
    · exact .inr ⟨y,by simp [h1],h2⟩
  · obtain ⟨a,b⟩:=max_attained (f:=Tri.d) ⟨I.mx.1,I.mx.2.1⟩ x hrx.2.2.1;have:=I.mx.2.2;exact ⟨a,b,by show 0<=max _ _;omega,by show max _ _<=8;omega⟩
  · obtain ⟨a,b⟩:=max_attained (f:=Tri.e) ⟨I.em.1,I.em.2.1⟩ x hrx.2.2.2.2.1;have:=I.em.2.2;exact ⟨a,b,by show 0<=max _ _;omega,by show max _ _<=4;omega⟩
  ·
   show useW W.u0 (p x.at_) true=true ↔ _
   rw [useW_iff,I.u0];refine ⟨fun h => ?_,fun ⟨y,h1,h2,h3⟩ => ?_⟩
   ·
    rcases h with ⟨y,h1,h2⟩ | h
    · exact ⟨y,by simp [h1],h2⟩
    · exact ⟨x,by simp,hn,h⟩
   ·
    rcases List.mem_append.1 h1 with h1 | h1
    · exact .inl ⟨y,h1,h2,h3⟩
    · rw [List.mem_singleton.1 h1] at h3;exact .inr h3
  ·
   show useW W.u1 (p x.at_) false=true ↔ _
   rw [useW_iff,I.u1];refine ⟨fun h => ?_,fun ⟨y,h1,h2,h3⟩ => ?_⟩
   ·
    rcases h with ⟨y,h1,h2⟩ | h
    · exact ⟨y,by simp [h1],h2⟩
    · exact ⟨x,by simp,hn,h⟩
   ·
    rcases List.mem_append.1 h1 with h1 | h1
    · exact .inl ⟨y,h1,h2,h3⟩
    · rw [List.mem_singleton.1 h1] at h3;exact .inr h3
theorem WInv.all {n:Nat} {p:Nat->Int × Int} {W:WS} (I:WInv n p W) (ht:W.todo=[]) {x:Tri} (hx:Reach n p x):x ∈ W.met:=by
 have no:∀ y:Tri,y ∈ W.met \/ y ∈ W.todo->y ∈ W.met:=by
  intro y hy
  rcases hy with hy | hy
  · exact hy
  · rw [ht] at hy;cases hy
 induction hx with
 | start=>exact no _ I.start
 | step hx hat _ hy ih=>exact no _ (((I.ok _ ih).2.2 hat).2.2 _ hy)
theorem tell_end {n:Nat} {p:Nat->Int × Int} (hgt:∀ k,k < n -> ∀ t ∈ nextsF n k (p k),k < t) {W:WS} (h:WRun n p W) (ht:W.todo=[]) :
  ∃ s,checkF n p n=some s/\(∀ k,k < n->W.D k=s.D k)/\W.mx=s.mx/\W.em=s.em/\W.u0=s.u0/\W.u1=s.u1:=by
 have I:=h.inv;obtain ⟨c1,c2⟩:=check_comp (n:=n) (p:=p) (Nat.le_refl n)
 cases hc:checkF n p n with
 | none =>
  exfalso
  rcases c1 hc with ⟨x,hx,hb⟩ | ⟨x,y,hx,hy,e,hn,hne⟩
  ·
   obtain ⟨a,b,c⟩:=I.ok x (I.all ht hx)
   rcases hb with hb | hb | ⟨hb1,hb2⟩
   · omega
   · omega
   · have:=(c hb1).2.1;omega
  · obtain ⟨_,_,a⟩:=I.ok x (I.all ht hx);obtain ⟨_,_,b⟩:=I.ok y (I.all ht hy);have a1:=(a hn).1;have b1:=(b (by omega)).1;rw [<- e] at b1;omega
 | some s =>
  have C:=c2 s hc;have inv:=checkF_inv (Nat.le_refl n) hc;have S:=fun x (hx:Reach n p x)=>sound hgt hc hx;obtain ⟨v0,v1⟩:=check_u (Nat.le_refl n) hc
  have D:∀ k,k < n->W.D k=s.D k:=by
   intro k hk
   by_cases hs:s.D k = -1
   ·
    rcases I.D k with h | ⟨x,h1,h2,h3,h4⟩
    · rw [h,hs]
    · have:=((S x (I.reach x (.inl h1)).1).in_ (by omega)).1;have:=(I.reach x (.inl h1)).2.2.1;rw [h2] at *;omega
   · have:=((I.ok _ (I.all ht (C.d k hs))).2.2 hk).1;exact this
  refine ⟨s,rfl,D,?_,?_,?_,?_⟩
  ·
   obtain ⟨x,h1,h2⟩:=C.mx;have a:=I.mx.1 x (I.all ht h1);have:=inv.mx
   rcases I.mx.2.1 with b | ⟨y,b1,b2⟩
   · omega
   · have:=(S y (I.reach y (.inl b1)).1).mx;omega
  ·
   obtain ⟨x,h1,h2⟩:=C.em;have a:=I.em.1 x (I.all ht h1);have:=inv.em
   rcases I.em.2.1 with b | ⟨y,b1,b2⟩
   · omega
   · have:=(S y (I.reach y (.inl b1)).1).em;omega
  ·
   rw [Bool.eq_iff_iff,I.u0];refine ⟨fun ⟨x,h1,h2,h3⟩ => ?_,fun h => ?_⟩
   · have:=((S x (I.reach x (.inl h1)).1).in_ h2).1;have:=(I.reach x (.inl h1)).2.2.1;exact (check_u' hgt hc h2 (by omega)).1 h3
   · obtain ⟨k,k1,k2,k3⟩:=v0 h;exact ⟨_,I.all ht (C.d k k2),k1,k3⟩
  ·
   rw [Bool.eq_iff_iff,I.u1];refine ⟨fun ⟨x,h1,h2,h3⟩ => ?_,fun h => ?_⟩
   · have:=((S x (I.reach x (.inl h1)).1).in_ h2).1;have:=(I.reach x (.inl h1)).2.2.1;exact (check_u' hgt hc h2 (by omega)).2 h3
   · obtain ⟨k,k1,k2,k3⟩:=v1 h;exact ⟨_,I.all ht (C.d k k2),k1,k3⟩
theorem tell_break {n:Nat} {p:Nat->Int × Int} (hgt:∀ k,k < n -> ∀ t ∈ nextsF n k (p k),k < t) {W:WS} (h:WRun n p W) {x:Tri} (hx:x ∈ W.todo) (hb:8 < x.d \/ 4 < x.e \/ (x.at_ < n/\0<=W.D x.at_/\W.D x.at_ ≠ x.d) \/ (x.at_ < n/\x.d < takesF (p x.at_).1)):checkF n p n=none:=by
 have I:=h.inv
 cases hc:checkF n p n with
 | none=>rfl
 | some s =>
  exfalso
  have S:=sound hgt hc (I.reach x (.inr hx)).1
  rcases hb with hb | hb | ⟨h1,h2,h3⟩ | ⟨h1,h2⟩
  · have:=S.d;omega
  · have:=S.e;omega
  ·
   rcases I.D x.at_ with h | ⟨y,g1,g2,g3,g4⟩
   · omega
   · have a:=((sound hgt hc (I.reach y (.inl g1)).1).in_ (by omega)).1;have b:=(S.in_ h1).1;rw [g2] at a;omega
  · have:=(S.in_ h1).2.2;omega
def grid (n:Nat):List Tri:=(List.range (n+1)).flatMap fun a=>(List.range 11).flatMap fun d:Nat=>(List.range 6).map fun e:Nat=>⟨a,(d:Int),(e:Int)⟩
theorem mem_grid {n:Nat} {x:Tri} (h:x.at_<=n/\0<=x.d/\x.d<=10/\0<=x.e/\x.e<=5):x ∈ grid n:=by
 obtain ⟨a,d,e⟩:=x;simp only at h;unfold grid;rw [List.mem_flatMap];refine ⟨a,List.mem_range.2 (by omega),?_⟩;rw [List.mem_flatMap];refine ⟨d.toNat,List.mem_range.2 (by omega),?_⟩;rw [List.mem_map];refine ⟨e.toNat,List.mem_range.2 (by omega),?_⟩;rw [Int.toNat_of_nonneg h.2.1,Int.toNat_of_nonneg h.2.2.2.1]
def left (n:Nat) (met:List Tri):Nat:=((grid n).filter fun x=>decide (x ∉ met)).length
theorem left_less (L met:List Tri) (x:Tri) (hx:x ∈ L) (hm:x ∉ met):(L.filter fun y=>decide (y ∉ met ++ [x])).length < (L.filter fun y=>decide (y ∉ met)).length:=by
 induction L with
 | nil=>cases hx
 | cons z L ih =>
  have mono:(L.filter fun y=>decide (y ∉ met ++ [x])).length<=(L.filter fun y=>decide (y ∉ met)).length:=by
   clear ih hx
   induction L with
   | nil=>exact Nat.le_refl _
   | cons u L ih2 =>
    simp only [List.filter_cons]
    by_cases c:u ∈ met
    · simp [c];simpa using ih2
    ·
     by_cases c2:u=x
     · simp [c2,hm];have:=ih2;simp at this;omega
     · simp [c,c2];simpa using ih2
  simp only [List.filter_cons]
  by_cases c:z=x
  · subst c;simp [hm];have:=mono;simp at this;omega
  ·
   have hx':x ∈ L:=by
    rcases List.mem_cons.1 hx with h | h
    · exact absurd h.symm c
    · exact h
   have:=ih hx'
   by_cases c2:z ∈ met
   · simp [c2];simpa using this
   · simp [c2,c];simpa using this
theorem left_step {n:Nat} {p:Nat->Int × Int} {W:WS} (h:WRun n p W) {x:Tri} (hx:x ∈ W.todo) (hm:x ∉ W.met):left n (W.met ++ [x]) < left n W.met :=
 left_less _ _ _ (mem_grid (h.inv.reach x (.inr hx)).2) hm
end Go.Proofs.YtgblfflikgnfpaaGreat
