/- Texts merged into one, for the number of files a claim may have: Still. -/
import Derived.StillTailTactics
import Derived.WalkKit
namespace Go.Fb
open Go
set_option maxRecDepth 100000
set_option maxHeartbeats 16000000
set_option linter.unusedVariables false
def stillO (P:Program) (ops:Array Oper) (w:World) (Q:Act->Prop):List Oper->Act->Prop
 | [],a=>Q a
 | o :: rest,a=>(Region.wanted o (yielded ops a.tmps)=true/\o.still P a w (stillO P ops w Q rest)) \/ (¬ Region.wanted o (yielded ops a.tmps)=true/\stillO P ops w Q rest (a.put o.dst undef))
theorem still_of {P:Program} {ops:Array Oper} {w:World} {Q:Act->Prop}:∀ {l:List Oper} {a:Act},stillO P ops w Q l a->wpStill P ops w Q l a
 | [],_,h=>h
 | o :: rest,a,h=>by
  unfold wpStill
  rcases h with ⟨h1,h2⟩ | ⟨h1,h2⟩
  · rw [if_pos h1];exact Oper.still_mono (fun a h=>still_of h) h2
  · rw [if_neg h1];exact still_of h2
theorem stillO_nil {P:Program} {ops:Array Oper} {w:World} {Q:Act->Prop} {a:Act} (h:Q a):stillO P ops w Q [] a:=h
theorem stillO_step {P:Program} {ops:Array Oper} {w:World} {Q:Act->Prop} {a:Act} {o:Oper} {rest:List Oper}
  (h:∀ K:Act->Prop,(∀ a,stillO P ops w Q rest a->K a)->if Region.wanted o (yielded ops a.tmps) then o.still P a w K else K (a.put o.dst undef)):stillO P ops w Q (o :: rest) a:=by
 have:=h _ (fun _ h=>h);unfold stillO
 split at this
 · rename_i hw;exact .inl ⟨hw,this⟩
 · rename_i hw;exact .inr ⟨hw,this⟩
theorem region_tail {P:Program} {id:Nat} {Q:Exit->Act->World->Prop} {a:Act} {w:World} {l:List Oper} (n:Nat) (hm:P.follows .mixedOrders=true) (hB:Region.lexTailB .any l.toArray n=true)
  (h:stillO P l.toArray w.drew (fun a'=>wpList P l.toArray Q (l.drop n) a' w.drew) (l.take n) a):(Code.region id l.toArray true).wp P Q a w :=
 wp_region_still_tail n hm hB (still_of h)
end Go.Fb
