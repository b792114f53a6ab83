/- What is defined: an abstract machine over numbered objects, for the calls of one program; no theorem of the program. What is proved: how the abstract machine's objects stand to a world's memory; no theorem of the program. What is proved: what each operation of the abstract machine gives, the model's operation gives; no theorem of the program. What is proved: more of the abstract machine's operations; no theorem of the program. What is proved: what a run of the abstract machine gives, the model's run gives; no theorem of the program. -/
import Derived.Below
import Derived.Tactics
import Derived.Control
import Derived.ScopeJumps
import Derived.Laws.Cells
import Derived.Laws.Rows
import Derived.Laws.Slices
import Derived.Laws.Entries
import Derived.Laws.AppendOwn
import Derived.Laws.LoneSync
import Derived.Deep.Draws
import Derived.Deep.MidRow
import Derived.IntWalk
set_option maxRecDepth 100000
set_option maxHeartbeats 4000000
set_option linter.unusedSimpArgs false
set_option linter.unusedVariables false
set_option linter.unusedSectionVars false
namespace Go.Vm
mutual
def decV:(a b:Value)→Decidable (a=b)
 | .bool a, b => match b with
  | .bool b=>if h:a=b then isTrue (by rw[h])else isFalse (by intro e;injection e;exact h ‹_›)
  | .int .. | .float .. | .complex .. | .string .. | .pointer .. | .slice .. | .map .. | .chan .. | .func .. | .nilFunc | .iface .. | .nilIface | .agg .. | .tuple .. => isFalse (by intro e;cases e)
 | .int k a, b => match b with
  | .int k' b=>if h:k=k'∧a=b then isTrue (by rw[h.1,h.2])else isFalse (by intro e;injection e with e1 e2;exact h ⟨e1,e2⟩)
  | .bool .. | .float .. | .complex .. | .string .. | .pointer .. | .slice .. | .map .. | .chan .. | .func .. | .nilFunc | .iface .. | .nilIface | .agg .. | .tuple .. => isFalse (by intro e;cases e)
 | .float k a, b => match b with
  | .float k' b=>if h:k=k'∧a=b then isTrue (by rw[h.1,h.2])else isFalse (by intro e;injection e with e1 e2;exact h ⟨e1,e2⟩)
  | .bool .. | .int .. | .complex .. | .string .. | .pointer .. | .slice .. | .map .. | .chan .. | .func .. | .nilFunc | .iface .. | .nilIface | .agg .. | .tuple .. => isFalse (by intro e;cases e)
 | .complex k a c, b => match b with
  | .complex k' b d=>if h:k=k'∧a=b∧c=d then isTrue (by rw[h.1,h.2.1,h.2.2])else isFalse (by intro e;injection e with e1 e2 e3;exact h ⟨e1,e2,e3⟩)
  | .bool .. | .int .. | .float .. | .string .. | .pointer .. | .slice .. | .map .. | .chan .. | .func .. | .nilFunc | .iface .. | .nilIface | .agg .. | .tuple .. => isFalse (by intro e;cases e)
 | .string a, b => match b with
  | .string b=>if h:a=b then isTrue (by rw[h])else isFalse (by intro e;injection e;exact h ‹_›)
  | .bool .. | .int .. | .float .. | .complex .. | .pointer .. | .slice .. | .map .. | .chan .. | .func .. | .nilFunc | .iface .. | .nilIface | .agg .. | .tuple .. => isFalse (by intro e;cases e)
 | .pointer a, b => match b with
  | .pointer b=>if h:a=b then isTrue (by rw[h])else isFalse (by intro e;injection e;exact h ‹_›)
  | .bool .. | .int .. | .float .. | .complex .. | .string .. | .slice .. | .map .. | .chan .. | .func .. | .nilFunc | .iface .. | .nilIface | .agg .. | .tuple .. => isFalse (by intro e;cases e)
 | .slice a l c, b => match b with
  | .slice b l' c'=>if h:a=b∧l=l'∧c=c' then isTrue (by rw[h.1,h.2.1,h.2.2])else isFalse (by intro e;injection e with e1 e2 e3;exact h ⟨e1,e2,e3⟩)
  | .bool .. | .int .. | .float .. | .complex .. | .string .. | .pointer .. | .map .. | .chan .. | .func .. | .nilFunc | .iface .. | .nilIface | .agg .. | .tuple .. => isFalse (by intro e;cases e)
 | .map a, b => match b with
  | .map b=>if h:a=b then isTrue (by rw[h])else isFalse (by intro e;injection e;exact h ‹_›)
  | .bool .. | .int .. | .float .. | .complex .. | .string .. | .pointer .. | .slice .. | .chan .. | .func .. | .nilFunc | .iface .. | .nilIface | .agg .. | .tuple .. => isFalse (by intro e;cases e)
 | .chan a, b => match b with
  | .chan b=>if h:a=b then isTrue (by rw[h])else isFalse (by intro e;injection e;exact h ‹_›)
  | .bool .. | .int .. | .float .. | .complex .. | .string .. | .pointer .. | .slice .. | .map .. | .func .. | .nilFunc | .iface .. | .nilIface | .agg .. | .tuple .. => isFalse (by intro e;cases e)
 | .func f x y, b => match b with
  | .func g u v =>
   if h:f=g then
    match decA x u,decA y v with
    | isTrue h1,isTrue h2=>isTrue (by rw[h,h1,h2])
    | isFalse h1,_=>isFalse (by intro e;injection e;exact h1 ‹_›)
    | _,isFalse h2=>isFalse (by intro e;injection e;exact h2 ‹_›)
   else isFalse (by intro e;injection e;exact h ‹_›)
  | .bool .. | .int .. | .float .. | .complex .. | .string .. | .pointer .. | .slice .. | .map .. | .chan .. | .nilFunc | .iface .. | .nilIface | .agg .. | .tuple .. => isFalse (by intro e;cases e)
 | .nilFunc, b => match b with
  | .nilFunc=>isTrue rfl
  | .bool .. | .int .. | .float .. | .complex .. | .string .. | .pointer .. | .slice .. | .map .. | .chan .. | .func .. | .iface .. | .nilIface | .agg .. | .tuple .. => isFalse (by intro e;cases e)
 | .iface t x, b => match b with
  | .iface u y =>
   if h:t=u then
    match decV x y with
    | isTrue h1=>isTrue (by rw[h,h1])
    | isFalse h1=>isFalse (by intro e;injection e;exact h1 ‹_›)
   else isFalse (by intro e;injection e;exact h ‹_›)
  | .bool .. | .int .. | .float .. | .complex .. | .string .. | .pointer .. | .slice .. | .map .. | .chan .. | .func .. | .nilFunc | .nilIface | .agg .. | .tuple .. => isFalse (by intro e;cases e)
 | .nilIface, b => match b with
  | .nilIface=>isTrue rfl
  | .bool .. | .int .. | .float .. | .complex .. | .string .. | .pointer .. | .slice .. | .map .. | .chan .. | .func .. | .nilFunc | .iface .. | .agg .. | .tuple .. => isFalse (by intro e;cases e)
 | .agg x, b => match b with
  | .agg y => match decA x y with
   | isTrue h=>isTrue (by rw[h])
   | isFalse h=>isFalse (by intro e;injection e;exact h ‹_›)
  | .bool .. | .int .. | .float .. | .complex .. | .string .. | .pointer .. | .slice .. | .map .. | .chan .. | .func .. | .nilFunc | .iface .. | .nilIface | .tuple .. => isFalse (by intro e;cases e)
 | .tuple x, b => match b with
  | .tuple y => match decA x y with
   | isTrue h=>isTrue (by rw[h])
   | isFalse h=>isFalse (by intro e;injection e;exact h ‹_›)
  | .bool .. | .int .. | .float .. | .complex .. | .string .. | .pointer .. | .slice .. | .map .. | .chan .. | .func .. | .nilFunc | .iface .. | .nilIface | .agg .. => isFalse (by intro e;cases e)
def decA:(a b:Array Value)→Decidable (a=b)
 | ⟨x⟩, ⟨y⟩ => match decL x y with
  | isTrue h=>isTrue (by rw[h])
  | isFalse h=>isFalse (by intro e;injection e;exact h ‹_›)
def decL:(a b:List Value)→Decidable (a=b)
 | [],[]=>isTrue rfl
 | [],_ :: _=>isFalse (by intro e;cases e)
 | _ :: _,[]=>isFalse (by intro e;cases e)
 | x :: xs, y :: ys => match decV x y, decL xs ys with
  | isTrue h1,isTrue h2=>isTrue (by rw[h1,h2])
  | isFalse h1,_=>isFalse (by intro e;injection e;exact h1 ‹_›)
  | _,isFalse h2=>isFalse (by intro e;injection e;exact h2 ‹_›)
end
instance:DecidableEq Value:=decV
def oneL:List Value→Bool
 | []=>true
 | v :: vs=>v.oneCell' && oneL vs
def oneA (x:Array Value):Bool:=oneL x.toList
mutual
def ground:Value→Bool
 | .bool _ | .int .. | .float .. | .complex .. | .string _ | .nilFunc | .nilIface=>true
 | .pointer a=>a.isNone
 | .slice a _ _=>a.isNone
 | .map a=>a.isNone
 | .chan a=>a.isNone
 | .func _ x y=>groundA x && groundA y
 | .iface _ x=>ground x
 | .agg x=>groundA x && oneA x
 | .tuple x=>groundA x
def groundA:Array Value→Bool
 | ⟨x⟩=>groundL x
def groundL:List Value→Bool
 | []=>true
 | x :: xs=>ground x && groundL xs
end
inductive AObj where
 | row (own:Bool) (tail es:Nat) (cs:List Value)
 | map (es:List (Value × Value))
 | siter (s:ByteArray) (pos:Nat)
 | unit (e:TypeId)
 | dead
 deriving Inhabited
inductive Tr where
 | leaf
 | node (o:AObj) (l r:Tr)
def Tr.get:Tr→Nat→AObj
 | .leaf,_ => .dead
 | .node o l r, i =>
  match Nat.beq i 0 with
  | true=>o
  | false => match Nat.beq (i % 2) 1 with
   | true=>l.get (i / 2)
   | false=>r.get (i / 2 - 1)
def Tr.set:Nat→Tr→Nat→AObj→Tr
 | 0,t,_,_=>t
 | f + 1, .leaf, i, o =>
  match Nat.beq i 0 with
  | true => .node o .leaf .leaf
  | false => match Nat.beq (i % 2) 1 with
   | true => .node .dead (Tr.set f .leaf (i / 2) o) .leaf
   | false => .node .dead .leaf (Tr.set f .leaf (i / 2 - 1) o)
 | f + 1, .node p l r, i, o =>
  match Nat.beq i 0 with
  | true => .node o l r
  | false => match Nat.beq (i % 2) 1 with
   | true => .node p (Tr.set f l (i / 2) o) r
   | false => .node p l (Tr.set f r (i / 2 - 1) o)
theorem Tr.get_set (o:AObj):∀ (f:Nat)(t:Tr)(i j:Nat),i<f→(Tr.set f t i o).get j=if j=i then o else t.get j:=by
 intro f
 induction f with
 | zero=>intro t i j h;omega
 | succ f ih =>
  intro t i j h
  cases t with
  | leaf =>
   unfold Tr.set
   cases hi:Nat.beq i 0 with
   | true =>
    have hi0:i=0:=Nat.eq_of_beq_eq_true hi
    subst hi0
    simp only[Tr.get]
    cases hj:Nat.beq j 0 with
    | true=>have:=Nat.eq_of_beq_eq_true hj;subst this;simp
    | false=>have:j≠0:=Nat.ne_of_beq_eq_false hj;simp[this];split<;>rfl
   | false =>
    have hi0:i≠0:=Nat.ne_of_beq_eq_false hi
    cases hp:Nat.beq (i % 2) 1 with
    | true =>
     have hp1:i % 2=1:=Nat.eq_of_beq_eq_true hp
     simp only[Tr.get]
     cases hj:Nat.beq j 0 with
     | true=>have:=Nat.eq_of_beq_eq_true hj;subst this;rw[if_neg (by omega)]
     | false =>
      have hj0:j≠0:=Nat.ne_of_beq_eq_false hj
      cases hq:Nat.beq (j % 2) 1 with
      | true =>
       have hq1:j % 2=1:=Nat.eq_of_beq_eq_true hq
       simp only[ih _ _ (j / 2) (show i / 2<f by omega),Tr.get]
       by_cases e:j=i
       · rw[if_pos (by omega),if_pos e]
       · rw[if_neg (by omega),if_neg e]
      | false =>
       have hq1:j % 2≠1:=Nat.ne_of_beq_eq_false hq
       rw[if_neg (by omega)]
    | false =>
     have hp1:i % 2≠1:=Nat.ne_of_beq_eq_false hp
     simp only[Tr.get]
     cases hj:Nat.beq j 0 with
     | true=>have:=Nat.eq_of_beq_eq_true hj;subst this;rw[if_neg (by omega)]
     | false =>
      have hj0:j≠0:=Nat.ne_of_beq_eq_false hj
      cases hq:Nat.beq (j % 2) 1 with
      | true =>
       have hq1:j % 2=1:=Nat.eq_of_beq_eq_true hq
       rw[if_neg (by omega)]
      | false =>
       have hq1:j % 2≠1:=Nat.ne_of_beq_eq_false hq
       simp only[ih _ _ (j / 2 - 1) (show i / 2 - 1<f by omega),Tr.get]
       by_cases e:j=i
       · rw[if_pos (by omega),if_pos e]
       · rw[if_neg (by omega),if_neg e]
  | node p l r =>
   unfold Tr.set
   cases hi:Nat.beq i 0 with
   | true =>
    have hi0:i=0:=Nat.eq_of_beq_eq_true hi
    subst hi0
    simp only[Tr.get]
    cases hj:Nat.beq j 0 with
    | true=>have:=Nat.eq_of_beq_eq_true hj;subst this;simp
    | false=>have:j≠0:=Nat.ne_of_beq_eq_false hj;simp[this]
   | false =>
    have hi0:i≠0:=Nat.ne_of_beq_eq_false hi
    cases hp:Nat.beq (i % 2) 1 with
    | true =>
     have hp1:i % 2=1:=Nat.eq_of_beq_eq_true hp
     simp only[Tr.get]
     cases hj:Nat.beq j 0 with
     | true=>have:=Nat.eq_of_beq_eq_true hj;subst this;rw[if_neg (by omega)]
     | false =>
      have hj0:j≠0:=Nat.ne_of_beq_eq_false hj
      cases hq:Nat.beq (j % 2) 1 with
      | true =>
       have hq1:j % 2=1:=Nat.eq_of_beq_eq_true hq
       simp only[ih _ _ (j / 2) (show i / 2<f by omega)]
       by_cases e:j=i
       · rw[if_pos (by omega),if_pos e]
       · rw[if_neg (by omega),if_neg e]
      | false =>
       have hq1:j % 2≠1:=Nat.ne_of_beq_eq_false hq
       rw[if_neg (by omega)]
    | false =>
     have hp1:i % 2≠1:=Nat.ne_of_beq_eq_false hp
     simp only[Tr.get]
     cases hj:Nat.beq j 0 with
     | true=>have:=Nat.eq_of_beq_eq_true hj;subst this;rw[if_neg (by omega)]
     | false =>
      have hj0:j≠0:=Nat.ne_of_beq_eq_false hj
      cases hq:Nat.beq (j % 2) 1 with
      | true =>
       have hq1:j % 2=1:=Nat.eq_of_beq_eq_true hq
       rw[if_neg (by omega)]
      | false =>
       have hq1:j % 2≠1:=Nat.ne_of_beq_eq_false hq
       simp only[ih _ _ (j / 2 - 1) (show i / 2 - 1<f by omega)]
       by_cases e:j=i
       · rw[if_pos (by omega),if_pos e]
       · rw[if_neg (by omega),if_neg e]
structure Heap where
 n:Nat
 t:Tr
def Heap.empty:Heap:=⟨0,.leaf⟩
def Heap.get (H:Heap)(i:Nat):AObj:=match Nat.blt i H.n with | true=>H.t.get i | false => .dead
def Heap.set (H:Heap)(i:Nat)(o:AObj):Heap:=⟨H.n,Tr.set (i+1) H.t i o⟩
def Heap.push (H:Heap)(o:AObj):Heap:=⟨H.n+1,Tr.set (H.n+1) H.t H.n o⟩
theorem Heap.get_of_ge {H:Heap}{i:Nat}(h:H.n≤i):H.get i = .dead:=by
 unfold Heap.get
 have:Nat.blt i H.n=false:=by
  cases hb:Nat.blt i H.n with
  | false=>rfl
  | true=>simp[Nat.blt,Nat.ble_eq]at hb;omega
 rw[this]
theorem Heap.get_of_lt {H:Heap}{i:Nat}(h:i<H.n):H.get i=H.t.get i:=by
 unfold Heap.get
 have:Nat.blt i H.n=true:=by simp[Nat.blt,Nat.ble_eq];omega
 rw[this]
@[simp] theorem Heap.n_set (H:Heap)(i:Nat)(o:AObj):(H.set i o).n=H.n:=rfl
@[simp] theorem Heap.n_push (H:Heap)(o:AObj):(H.push o).n=H.n+1:=rfl
theorem Heap.get_set (H:Heap)(i:Nat)(o:AObj)(hi:i<H.n)(j:Nat):(H.set i o).get j=if j=i then o else H.get j:=by
 by_cases hj:j<H.n
 · rw[Heap.get_of_lt (H:=H.set i o) hj,Heap.get_of_lt hj]
   exact Tr.get_set o _ _ _ _ (by omega)
 · rw[Heap.get_of_ge (H:=H.set i o) (by simp;omega),Heap.get_of_ge (by omega),if_neg (by omega)]
theorem Heap.get_push (H:Heap)(o:AObj)(j:Nat):(H.push o).get j=if j=H.n then o else H.get j:=by
 by_cases hj:j<H.n+1
 · rw[Heap.get_of_lt (H:=H.push o) hj]
   show (Tr.set (H.n+1) H.t H.n o).get j=_
   rw[Tr.get_set o _ _ _ _ (by omega)]
   by_cases e:j=H.n
   · rw[if_pos e,if_pos e]
   · rw[if_neg e,if_neg e,Heap.get_of_lt (by omega)]
 · rw[Heap.get_of_ge (H:=H.push o) (by simp;omega),Heap.get_of_ge (by omega),if_neg (by omega)]
theorem Heap.lt_of_get {H:Heap}{i:Nat}{o:AObj}(h:H.get i=o)(ho:o ≠ .dead):i<H.n:=by
 rcases Nat.lt_or_ge i H.n with h1 | h1
 · exact h1
 · rw[Heap.get_of_ge h1]at h;exact absurd h.symm ho
def Heap.pushAt (H:Heap)(r:Nat)(o:AObj):Heap:=match Nat.beq r H.n with | true=>H.push o | false=>H.set r o
@[simp] theorem Heap.pushAt_n (H:Heap)(o:AObj):H.pushAt H.n o=H.push o:=by unfold Heap.pushAt;rw[Nat.beq_refl]
@[simp] theorem Heap.pushAt_set_n (H:Heap)(i:Nat)(o' o:AObj):(H.set i o').pushAt H.n o=(H.set i o').push o:=Heap.pushAt_n (H.set i o') o
theorem Heap.pushAt_lt {H:Heap}{r:Nat}(h:r<H.n)(o:AObj):H.pushAt r o=H.set r o:=by
 unfold Heap.pushAt
 have:Nat.beq r H.n=false:=by
  cases hb:Nat.beq r H.n with
  | false=>rfl
  | true=>have:=Nat.eq_of_beq_eq_true hb;omega
 rw[this]
theorem Heap.get_pushAt {H:Heap}{r:Nat}(h:r≤H.n)(o:AObj)(j:Nat):(H.pushAt r o).get j=if j=r then o else H.get j:=by
 rcases Nat.lt_or_ge r H.n with h1 | h1
 · rw[Heap.pushAt_lt h1];exact Heap.get_set H r o h1 j
 · obtain rfl:r=H.n:=by omega
   rw[Heap.pushAt_n];exact Heap.get_push H o j
theorem Heap.le_pushAt (H:Heap)(r:Nat)(o:AObj):H.n≤(H.pushAt r o).n:=by
 unfold Heap.pushAt;split<;>simp
theorem Heap.n_pushAt {H:Heap}{r j:Nat}(o:AObj)(h:(H.pushAt r o).n≤j):r≤H.n→j≠r∧H.n≤j:=by
 intro hr
 rcases Nat.lt_or_ge r H.n with h1 | h1
 · rw[Heap.pushAt_lt h1]at h;simp at h;omega
 · obtain rfl:r=H.n:=by omega
   rw[Heap.pushAt_n]at h;simp at h;omega
def pureRun (P:Program){α:Type}:Sem α→Option α
 | .pure a=>some a
 | .program k=>pureRun P (k P)
 | .mark _ k=>pureRun P k
 | _=>none
theorem pureRun_run (P:Program){α:Type}:∀ (s:Sem α)(a:α),pureRun P s=some a→∀ w,s.run P w = .ok a w:=by
 intro s
 induction s with
 | pure a=>intro b h w;simp only[pureRun,Option.some.injEq]at h;subst h;rfl
 | program k ih=>intro b h w;exact ih P b h w
 | mark m k ih=>intro b h w;exact ih b h w
 | _=>intro b h;simp[pureRun]at h
def ifGround:Option Value→Option Value
 | some v=>match ground v with | true=>some v | false=>none
 | none=>none
def isNil:Value→Bool
 | .pointer none | .slice none _ _ | .map none | .nilFunc | .nilIface=>true
 | _=>false
def sizeT (P:Program)(t:TypeId):Option Nat:=(P.info? t).map (·.size)
def eqNil (P:Program)(t:TypeId):Value→Value→Option Bool
 | .pointer none,.pointer b=>match P.underlying t with | some (.pointer _)=>some b.isNone | _=>none
 | .pointer (some _),.pointer none=>match P.underlying t with | some (.pointer _)=>some false | _=>none
 | .pointer (some ⟨a, o, none⟩), .pointer (some ⟨a2, o2, none⟩) => match P.underlying t, Nat.beq a a2 with
  | some (.pointer e),true=>match sizeT P e with | some (_+1)=>some (Nat.beq o o2) | _=>none
  | _,_=>none
 | .slice none _ _,.slice b _ _=>match P.underlying t with | some (.slice _)=>some b.isNone | _=>none
 | .slice (some _) _ _,.slice none _ _=>match P.underlying t with | some (.slice _)=>some false | _=>none
 | .map none,.map b=>match P.underlying t with | some (.map _ _)=>some b.isNone | _=>none
 | .map (some _),.map none=>match P.underlying t with | some (.map _ _)=>some false | _=>none
 | .nilFunc,.nilFunc=>match P.underlying t with | some (.func _ _ _)=>some true | _=>none
 | .nilFunc,.func _ _ _=>match P.underlying t with | some (.func _ _ _)=>some false | _=>none
 | .func _ _ _,.nilFunc=>match P.underlying t with | some (.func _ _ _)=>some false | _=>none
 | .nilIface,.iface _ _=>match P.underlying t with | some (.interface _)=>some false | _=>none
 | .iface _ _,.nilIface=>match P.underlying t with | some (.interface _)=>some false | _=>none
 | _,_=>none
def exBin (P:Program)(op:BinOp)(t:TypeId)(x y:Operand)(a b:Value):Option Value :=
 match ground a && ground b with
 | true=>ifGround (pureRun P (do eqGuard op t x y a b;binOp op t a b))
 | false => match op with
  | .eql=>(eqNil P t a b).map .bool
  | .neq=>(eqNil P t a b).map fun r => .bool (!r)
  | _=>none
def aggT (P:Program)(t:TypeId):Option Bool :=
 match P.underlying t with
 | some (.struct _) | some (.array _ _)=>some true
 | some _=>some false
 | none=>none
def bytesT (P:Program)(t:TypeId):Option Nat:=(P.info? t).map (·.bytes)
def elemT (P:Program)(t:TypeId):Option TypeId:=match P.underlying t with | some (.slice e)=>some e | _=>none
def isTuple:Value→Bool
 | .tuple _=>true
 | _=>false
def zeroT (P:Program)(t:TypeId):Option Value :=
 match ifGround ((P.info? t).bind (·.zero))with
 | some z=>match isTuple z with | true=>none | false=>some z
 | none=>none
def isAggV:Value→Bool
 | .agg _=>true
 | _=>false
def partA (P:Program)(t:TypeId)(cs:List Value)(off:Nat):Option Value :=
 match aggT P t,sizeT P t with
 | some true,some n=>if off+n≤cs.length then some (.agg ⟨(cs.drop off).take n⟩)else none
 | some false,_=>cs[off]?
 | _,_=>none
def writeAt (cs:List Value)(off:Nat)(vs:List Value):List Value:=cs.take off++(vs++cs.drop (off+vs.length))
def fillL (place:Nat→Option (Nat × Nat))(cells:List Value):List (Nat × Value)→Option (List Value)
 | []=>some cells
 | (i, v) :: rest =>
  match place i with
  | none=>none
  | some (off, size) =>
   match Nat.beq v.cells.toList.length size && Nat.ble (off+size) cells.length && !isTuple v with
   | true=>fillL place (writeAt cells off v.cells.toList) rest
   | false=>none
def placesOf (P:Program):List Field→Option (List (Nat × Nat))
 | []=>some []
 | f :: fs => match sizeT P f.type, placesOf P fs with
  | some n,some l=>some ((f.offset,n) :: l)
  | _,_=>none
def exBuild (P:Program)(t:TypeId)(parts:List (Nat × Value)):Option Value :=
 match zeroT P t with
 | none=>none
 | some z => match P.underlying t with
  | some (.struct fields) => match placesOf P fields.toList with
   | some pl=>(fillL (fun i=>pl[i]?) z.cells.toList parts).map fun cs => .agg ⟨cs⟩
   | none=>none
  | some (.array _ e) => match sizeT P e with
   | some n=>(fillL (fun i=>some (i * n,n)) z.cells.toList parts).map fun cs => .agg ⟨cs⟩
   | none=>none
  | _=>none
def repCells (n:Nat)(zs:List Value):List Value:=(List.replicate n zs).flatten
def exLoad (P:Program)(t:TypeId)(a:Value)(H:Heap):Option Value :=
 match a with
 | .pointer (some ⟨id, off, none⟩) => match H.get id with
  | .row _ _ _ cs=>partA P t cs off
  | .unit _=>partA P t [] off
  | _=>none
 | _=>none
def exStore (P:Program)(t:TypeId)(a v:Value)(H:Heap):Option Heap :=
 match a with
 | .pointer (some ⟨id, off, none⟩) => match H.get id with
  | .row true tl es cs => match sizeT P t with
   | some n => match Nat.beq v.cells.toList.length n && Nat.ble (off + n) cs.length && !isTuple v with
    | true=>some (H.set id (.row true tl es (writeAt cs off v.cells.toList)))
    | false=>none
   | none=>none
  | _=>none
 | _=>none
def varObj (P:Program)(t:TypeId)(cs:List Value):AObj:=match sizeT P t with
 | some 0 => .unit t
 | _ => .row true 0 1 cs
def newVarA (P:Program)(t:TypeId)(r:Nat)(H:Heap)(cs:List Value):Value × Heap:=(.pointer (some ⟨r,0,none⟩),H.pushAt r (varObj P t cs))
def exAllocAt (P:Program)(t:TypeId)(r:Nat)(H:Heap):Option (Value × Heap) :=
 (zeroT P t).map fun z=>newVarA P t r H z.cells.toList
def exAlloc (P:Program)(t:TypeId)(H:Heap):Option (Value × Heap):=exAllocAt P t H.n H
def exBoxAt (P:Program)(t:TypeId)(v:Value)(r:Nat)(H:Heap):Option (Value × Heap) :=
 match isTuple v with
 | true=>none
 | false=>some (newVarA P t r H v.cells.toList)
def exBox (P:Program)(t:TypeId)(v:Value)(H:Heap):Option (Value × Heap):=exBoxAt P t v H.n H
def exBuildSliceAt (P:Program)(t:TypeId)(len:Nat)(parts:List (Nat × Value))(r:Nat)(H:Heap):Option (Value × Heap) :=
 match elemT P t with
 | none=>none
 | some e => match sizeT P e, zeroT P e with
  | some n, some z => match Nat.ble (len * n) 16777216 && Nat.beq z.cells.toList.length n && !Nat.beq n 0 with
   | true=>(fillL (fun i=>some (i * n,n)) (repCells len z.cells.toList) parts).map fun cs=>(.slice (some ⟨r,0,none⟩) len len,H.pushAt r (.row true 0 n cs))
   | false=>none
  | _,_=>none
def exBuildSlice (P:Program)(t:TypeId)(len:Nat)(parts:List (Nat × Value))(H:Heap):Option (Value × Heap):=exBuildSliceAt P t len parts H.n H
def exMakeSlice (P:Program)(t:TypeId)(l c:Value)(H:Heap):Option (Value × Heap) :=
 match l,c,elemT P t with
 | .int _ l, .int _ c, some e => match sizeT P e, zeroT P e, bytesT P e with
  | some n, some z, some b =>
   if 0≤l∧l≤c∧c≤9223372036854775807∧b * c≤281474976710656∧z.cells.toList.length=n∧n≠0 then
    some (.slice (some ⟨H.n,0,none⟩) l.toNat c.toNat,H.push (.row true 0 n (repCells c.toNat z.cells.toList)))
   else none
  | _,_,_=>none
 | _,_,_=>none
def unitField (P:Program)(o:AObj)(id off:Nat)(fl:Field):Option Value:=match o with
 | .unit e => match sizeT P e, Nat.beq (off + fl.offset + fl.byteOffset) 0 with
  | some 0,true=>some (.pointer (some ⟨id,0,none⟩))
  | _,_=>none
 | _=>none
def exField (P:Program)(s:TypeId)(a:Value)(f:Nat)(H:Heap):Option Value :=
 match a,P.underlying s with
 | .pointer (some ⟨id, off, none⟩), some (.struct fields) => match fields[f]? with
  | some fl => match sizeT P fl.type with
   | some n => match Nat.beq n 0 with
    | true=>unitField P (H.get id) id off fl
    | false=>some (.pointer (some ⟨id,off+fl.offset,none⟩))
   | none=>none
  | none=>none
 | _,_=>none
def exIndex (P:Program)(t:TypeId)(x i:Value):Option Value :=
 match i with
 | .int _ i => match P.underlying t, x with
  | some (.slice e), .slice (some ⟨id, off, none⟩) len _ => match sizeT P e with
   | some n=>if 0≤i∧i<len then some (.pointer (some ⟨id,off+i.toNat * n,none⟩))else none
   | none=>none
  | some (.array len e), .pointer (some ⟨id, off, none⟩) => match sizeT P e with
   | some n=>if 0≤i∧i<len then some (.pointer (some ⟨id,off+i.toNat * n,none⟩))else none
   | none=>none
  | _,_=>none
 | _=>none
def boundOf (d:Nat):Option Value→Option Int
 | none=>some d
 | some (.int _ i)=>some i
 | some _=>none
def cutA (id off len cap n:Nat)(lo hi mx:Option Value)(H:Heap):Option (Value × Heap) :=
 match boundOf 0 lo,boundOf len hi,H.get id with
 | some l, some h, .row own tl es cs => match mx with
  | some m => match m, tl, hi with
   | .int _ m,0,some _=>if 0≤l∧l≤h∧h≤m∧m≤cap then
     some (.slice (some ⟨id,if m=l then off else off+l.toNat * n,none⟩) (h.toNat - l.toNat) (m.toNat - l.toNat),H)else none
   | _,_,_=>none
  | none =>
   if 0≤l∧l≤h∧h≤cap then
    match tl with
    | 0=>some (.slice (some ⟨id,if (cap:Int)=l then off else off+l.toNat * n,none⟩) (h.toNat - l.toNat) (cap - l.toNat),H)
    | _ =>
     if (cap:Int)=l∧l≠0 then
      match own,tl with
      | true,1=>if es=n∧off+cap * n=cs.length then
        some (.slice (some ⟨H.n,0,none⟩) 0 0,(H.set id (.row true 2 es cs)).push (.row true 1 n []))else none
      | _,_=>none
     else some (.slice (some ⟨id,off+l.toNat * n,none⟩) (h.toNat - l.toNat) (cap - l.toNat),H)
   else none
 | _,_,_=>none
def exSlice (P:Program)(t:TypeId)(x:Value)(lo hi mx:Option Value)(H:Heap):Option (Value × Heap) :=
 match P.underlying t,x with
 | some .string, .string s => match boundOf 0 lo, boundOf s.size hi, mx with
  | some l,some h,none=>if 0≤l∧l≤h∧h≤s.size then some (.string (s.extract l.toNat h.toNat),H)else none
  | _,_,_=>none
 | some (.slice e), .slice (some ⟨id, off, none⟩) len cap => match sizeT P e with
  | some n=>cutA id off len cap n lo hi mx H
  | none=>none
 | some (.slice e), .slice none 0 0 => match sizeT P e, boundOf 0 lo, boundOf 0 hi, mx with
  | some _,some 0,some 0,none=>some (.slice none 0 0,H)
  | _,_,_,_=>none
 | some (.array len e), .pointer (some ⟨id, off, none⟩) => match sizeT P e, H.get id with
  | some n,.row _ 0 _ _=>cutA id off len len n lo hi mx H
  | _,_=>none
 | _,_=>none
def cellsOf (H:Heap)(size n:Nat):Value→Option (List Value)
 | .slice (some ⟨id, off, none⟩) _ _ => match H.get id with
  | .row _ _ _ cs=>if off+n * size≤cs.length then some ((cs.drop off).take (n * size))else none
  | _=>none
 | .slice none _ _=>if n=0 then some []else none
 | .string s=>if size=1∧n≤s.size then some ((s.data.toList.take n).map fun b => .int .u8 b.toNat)else none
 | _=>none
def lenA:Value→Option Nat
 | .slice _ n _=>some n
 | .string s=>some s.size
 | _=>none
def exAppendMake (P:Program)(e:TypeId)(base:Option Addr)(len cap:Nat)(x:Value)(H:Heap):Option (Value × Heap) :=
 match base,x with
 | none, .int .i64 k => match sizeT P e, bytesT P e, zeroT P e with
  | some n, some b, some z =>
   if len=0∧cap=0∧0≤k∧k≤1000000∧b≤1000∧z.cells.toList.length=n∧n≠0 then
    if k=0 then some (.slice none 0 0,H)else some (.slice (some ⟨H.n,0,none⟩) k.toNat k.toNat,H.push (.row true 1 n (repCells k.toNat z.cells.toList)))
   else none
  | _,_,_=>none
 | _,_=>none
def exAppendRow (P:Program)(e:TypeId)(base:Option Addr)(len cap:Nat)(x:Value)(r:Nat)(pu:Heap→AObj→Heap)(H:Heap):Option (Value × Heap) :=
 match sizeT P e,bytesT P e,lenA x,zeroT P e with
 | some n, some b, some m, some z => match cellsOf H n m x with
  | none=>none
  | some new =>
   if n≠0∧z.cells.toList.length=n∧(len+m+200) * b≤140737488355328∧len+m≤140737488355328∧len≤cap then
    match base with
    | none=>if m=0 then some (.slice none len cap,H)else if cap=0∧len=0 then some (.slice (some ⟨r,0,none⟩) m m,pu H (.row true 1 n new))else none
    | some ⟨id, off, none⟩ =>
     if m=0 then some (.slice (some ⟨id,off,none⟩) len cap,H)else
     match H.get id with
     | .row own tl es cs =>
      if len+m≤cap then
       if own=true∧off+(len+m) * n≤cs.length then some (.slice (some ⟨id,off,none⟩) (len+m) cap,H.set id (.row true tl es (writeAt cs (off+len * n) new)))else none
      else if off+len * n≤cs.length then
       match tl with
       | 0=>some (.slice (some ⟨r,0,none⟩) (len+m) (len+m),pu H (.row true 1 n ((cs.drop off).take (len * n)++new)))
       | 1=>if own=true∧es=n∧off+cap * n≤cs.length then
         some (.slice (some ⟨r,0,none⟩) (len+m) (len+m),pu (H.set id .dead) (.row true 1 n ((cs.drop off).take (len * n)++new)))else none
       | _=>none
      else none
     | _=>none
    | _=>none
   else none
 | _,_,_,_=>none
def exAppend (P:Program)(ts:List TypeId)(s x:Value)(H:Heap):Option (Value × Heap) :=
 match ts,s with
 | t :: t1 :: _, .slice base len cap => match elemT P t, P.underlying t1 with
  | some e,some (.int _)=>exAppendMake P e base len cap x H
  | some e,some _=>exAppendRow P e base len cap x H.n Heap.push H
  | _,_=>none
 | _,_=>none
def exAppendAt (P:Program)(ts:List TypeId)(s x:Value)(r:Nat)(H:Heap):Option (Value × Heap) :=
 match ts,s with
 | t :: t1 :: _, .slice base len cap => match elemT P t, P.underlying t1 with
  | some _,some (.int _)=>none
  | some e,some _=>exAppendRow P e base len cap x r (fun H o=>H.pushAt r o) H
  | _,_=>none
 | _,_=>none
def exCopy (P:Program)(ts:List TypeId)(d x:Value)(H:Heap):Option (Value × Heap) :=
 match ts,d with
 | t :: _, .slice base len _ => match elemT P t, lenA x with
  | some e, some m => match sizeT P e with
   | some n => match cellsOf H n (min m len) x with
    | some new => match base with
     | none=>if len=0 then some (.int .i64 0,H)else none
     | some ⟨id, off, none⟩ => match H.get id with
      | .row true tl es cs=>if off+min m len * n≤cs.length then some (.int .i64 (min m len:Nat),H.set id (.row true tl es (writeAt cs off new)))else none
      | _=>none
     | _=>none
    | none=>none
   | none=>none
  | _,_=>none
 | _,_=>none
def exClear (P:Program)(ts:List TypeId)(x:Value)(H:Heap):Option Heap :=
 match ts with
 | t :: _ => match elemT P t with
  | none=>none
  | some e => match x with
   | .slice none _ _=>some H
   | .slice (some ⟨id, off, none⟩) len _ =>
    if len=0 then some H else
    match sizeT P e,zeroT P e with
    | some n, some z => match H.get id with
     | .row true tl es cs=>if off+len * n≤cs.length∧z.cells.toList.length=n∧n≠0 then some (H.set id (.row true tl es (writeAt cs off (repCells len z.cells.toList))))else none
     | _=>none
    | _,_=>none
   | _=>none
 | []=>none
def keyKind (P:Program)(t:TypeId)(k:Value):Bool :=
 match P.underlying t,k with
 | some (.int j),.int j' _=>j == j'
 | some .string,.string _=>true
 | some .bool,.bool _=>true
 | _,_=>false
def keyIs:Value→Value→Option Bool
 | .int j a,.int j' b=>if j=j' then some (a == b)else none
 | .string a,.string b=>some (a == b)
 | .bool a,.bool b=>some (a == b)
 | _,_=>none
def mapFind (k:Value):List (Value × Value)→Option (Option Value)
 | []=>some none
 | (q, v) :: es => match keyIs k q with
  | some true=>some (some v)
  | some false=>mapFind k es
  | none=>none
def mapPut (k v:Value):List (Value × Value)→Option (List (Value × Value))
 | []=>some [(k,v)]
 | (q, u) :: es => match keyIs k q with
  | some true=>some ((k,v) :: es)
  | some false=>(mapPut k v es).map fun r=>(q,u) :: r
  | none=>none
def exLookup (P:Program)(t:TypeId)(m k:Value)(ok:Bool)(H:Heap):Option Value :=
 match P.underlying t with
 | some (.map kt et) =>
  match keyKind P kt k with
  | false=>none
  | true =>
   let r:Option (Option Value):=match m with
    | .map none=>some none
    | .map (some id) => match H.get id with
     | .map es=>mapFind k es
     | _=>none
    | _=>none
   match r with
   | some (some v)=>some (if ok then .tuple #[v,.bool true]else v)
   | some none=>(zeroT P et).map fun z=>if ok then .tuple #[z,.bool false]else z
   | none=>none
 | _=>none
def exMapPut (P:Program)(t:TypeId)(m k v:Value)(H:Heap):Option Heap :=
 match P.underlying t,m with
 | some (.map kt _), .map (some id) =>
  match keyKind P kt k with
  | true => match H.get id with
   | .map es=>(mapPut k v es).map fun r=>H.set id (.map r)
   | _=>none
  | false=>none
 | _,_=>none
def exLen (P:Program)(ts:List TypeId)(x:Value)(H:Heap):Option Value :=
 match ts with
 | t :: _ => match P.underlying t, x with
  | some .string,.string s=>some (.int .i64 s.size)
  | some (.array n _),_=>some (.int .i64 n)
  | some (.slice _),.slice _ n _=>some (.int .i64 n)
  | some (.map _ _),.map none=>some (.int .i64 0)
  | some (.map _ _), .map (some id) => match H.get id with
   | .map es=>some (.int .i64 es.length)
   | _=>none
  | _,_=>none
 | _=>none
def exCap (P:Program)(ts:List TypeId)(x:Value)(H:Heap):Option Value :=
 match ts with
 | t :: _ => match P.underlying t, x with
  | some (.slice _),.slice none _ c=>some (.int .i64 c)
  | some (.slice _), .slice (some ⟨id, _, none⟩) _ c => match H.get id with
   | .row _ 0 _ _=>some (.int .i64 c)
   | _=>none
  | _,_=>none
 | _=>none
def bytesOf (s:ByteArray):List Value:=s.data.toList.map fun b => .int .u8 b.toNat
def byteList:List Value→Option (List UInt8)
 | []=>some []
 | .int .u8 n :: cs=>(byteList cs).map fun l=>UInt8.ofNat n.toNat :: l
 | _ :: _=>none
def exConvert (P:Program)(src dst:TypeId)(x:Value)(H:Heap):Option (Value × Heap) :=
 match P.underlying src,P.underlying dst,x with
 | some .string, some (.slice e), .string s => match P.underlying e with
  | some (.int .u8)=>some (.slice (some ⟨H.n,0,none⟩) s.size s.size,H.push (.row true 1 1 (bytesOf s)))
  | _=>none
 | some (.slice e), some .string, .slice a len c => match P.underlying e with
  | some (.int .u8) => match cellsOf H 1 len (.slice a len c) with
   | some cs=>(byteList cs).map fun l=>(.string ⟨⟨l⟩⟩,H)
   | none=>none
  | _=>none
 | some .string,some (.slice _),_=>none
 | some (.slice e), some (.slice _), .slice (some ⟨id, off, none⟩) l c => match Nat.beq src dst, P.underlying e, H.get id with
  | true,some (.int .u8),.row true _ _ _=>some (.slice (some ⟨id,off,none⟩) l c,H)
  | _,_,_=>none
 | some (.slice _),_,_=>none
 | _, _, _ => match ground x with
  | true=>(ifGround (pureRun P (convert src dst x))).map fun v=>(v,H)
  | false=>none
inductive Out where
 | val (v:Value)
 | pan (v:Value)
 deriving Inhabited
abbrev CallA:=FuncId→List Value→Heap→Option (Out × Heap)
def evA (tmps:List Value):Operand→Option Value
 | .tmp t=>some (tmps.getD t undef)
 | .const v=>match ground v with | true=>some v | false=>none
 | .global _=>none
 | .func f=>some (.func (.func f) #[] #[])
def evL (tmps:List Value):List Operand→Option (List Value)
 | []=>some []
 | x :: xs => match evA tmps x, evL tmps xs with
  | some v,some vs=>some (v :: vs)
  | _,_=>none
def evO (tmps:List Value):Option Operand→Option (Option Value)
 | none=>some none
 | some x=>(evA tmps x).map some
def evP (tmps:List Value):List (Nat × Operand)→Option (List (Nat × Value))
 | []=>some []
 | (i, x) :: xs => match evA tmps x, evP tmps xs with
  | some v,some vs=>some ((i,v) :: vs)
  | _,_=>none
def val2 (r:Option (Value × Heap)):Option (Out × Heap):=r.map fun p=>(.val p.1,p.2)
def val1 (r:Option Value)(H:Heap):Option (Out × Heap):=r.map fun v=>(.val v,H)
def skip1 (r:Option Heap):Option (Out × Heap):=r.map fun H=>(.val undef,H)
def exBuiltin (P:Program)(b:Builtin)(ts:List TypeId)(args:List Value)(H:Heap):Option (Out × Heap) :=
 match b,args with
 | .append,[s,x]=>val2 (exAppend P ts s x H)
 | .copy,[d,x]=>val2 (exCopy P ts d x H)
 | .clear,[x]=>(exClear P ts x H).map fun H'=>(.val (.tuple #[]),H')
 | .len,[x]=>val1 (exLen P ts x H) H
 | .cap,[x]=>val1 (exCap P ts x H) H
 | .min,xs=>match groundL xs with | true=>val1 (ifGround (pureRun P (Builtin.min_ ts.toArray 0 xs.toArray))) H | false=>none
 | .max,xs=>match groundL xs with | true=>val1 (ifGround (pureRun P (Builtin.max_ ts.toArray 0 xs.toArray))) H | false=>none
 | _,_=>none
def exMethod (P:Program)(t:TypeId)(name:String):Option FuncId :=
 match P.info? t with
 | some i => match i.methods.find? (·.name == name) with
  | some m => match m.path.toList, m.func, P.underlying t with
   | [],some (f,true),some (.pointer _)=>some f
   | [],some (f,false),some (.pointer _)=>none
   | [],some (f,false),some _=>some f
   | _,_,_=>none
  | none=>none
 | none=>none
def exCallOp (P:Program)(call:CallA)(c:Call)(tmps:List Value)(H:Heap):Option (Out × Heap) :=
 match evL tmps c.args.toList with
 | none=>none
 | some args => match c.callee with
  | .builtin b=>exBuiltin P b c.argTypes.toList args H
  | .value f => match evA tmps f with
   | some (.func (.func g) first captured)=>call g (first.toList++args++captured.toList) H
   | _=>none
  | .invoke r m => match evA tmps r with
   | some (.iface t v) => match exMethod P t m with
    | some f=>call f (v :: args) H
    | none=>none
   | _=>none
def exOp (P:Program)(call:CallA)(o:Op)(tmps:List Value)(H:Heap):Option (Out × Heap) :=
 match o with
 | .move x | .assign x=>val1 (evA tmps x) H
 | .pick c a b => match evA tmps c with
  | some (.bool t)=>val1 (match t with | true=>evA tmps a | false=>evA tmps b) H
  | _=>none
 | .alloc t=>val2 (exAlloc P t H)
 | .box ty x=>match evA tmps x with | some v=>val2 (exBox P ty v H) | none=>none
 | .build t ps=>match evP tmps ps.toList with | some l=>val1 (exBuild P t l) H | none=>none
 | .buildSlice t n ps=>match evP tmps ps.toList with | some l=>val2 (exBuildSlice P t n l H) | none=>none
 | .load t a=>match evA tmps a with | some v=>val1 (exLoad P t v H) H | none=>none
 | .store t a x=>match evA tmps a,evA tmps x with | some v,some u=>skip1 (exStore P t v u H) | _,_=>none
 | .nilCheck x => match evA tmps x with
  | some (.pointer (some a))=>some (.val (.pointer (some a)),H)
  | some (.func (.func f) a c)=>some (.val (.func (.func f) a c),H)
  | _=>none
 | .binOp op t x y _=>match evA tmps x,evA tmps y with | some a,some b=>val1 (exBin P op t x y a b) H | _,_=>none
 | .unOp op _ x => match evA tmps x with
  | some a=>match ground a with | true=>val1 (ifGround (pureRun P (Op.unary op a))) H | false=>none
  | none=>none
 | .typeAssert x xt ty ok => match evA tmps x with
  | some a=>match ground a with | true=>val1 (ifGround (pureRun P (Instr.typeAssert a xt ty ok))) H | false=>none
  | none=>none
 | .convert s d x=>match evA tmps x with | some a=>val2 (exConvert P s d a H) | none=>none
 | .makeInterface t x => match evA tmps x with
  | some v => match P.underlying t with
   | some (.interface _) | none=>none
   | some _=>some (.val (.iface t v),H)
  | none=>none
 | .makeFunc (.func f) first captured => match evL tmps first.toList, evL tmps captured.toList with
  | some a,some c=>some (.val (.func (.func f) ⟨a⟩ ⟨c⟩),H)
  | _,_=>none
 | .makeMap _ none=>some (.val (.map (some H.n)),H.push (.map []))
 | .makeSlice t l c=>match evA tmps l,evA tmps c with | some a,some b=>val2 (exMakeSlice P t a b H) | _,_=>none
 | .slice t x lo hi mx => match evA tmps x, evO tmps lo, evO tmps hi, evO tmps mx with
  | some v,some l,some h,some m=>val2 (exSlice P t v l h m H)
  | _,_,_,_=>none
 | .fieldAddr s x f=>match evA tmps x with | some v=>val1 (exField P s v f H) H | none=>none
 | .field t x f => match evA tmps x, P.underlying t with
  | some (.agg cs), some (.struct fields) => match fields[f]? with
   | some fl=>val1 (partA P fl.type cs.toList fl.offset) H
   | none=>none
  | _,_=>none
 | .indexAddr t x i=>match evA tmps x,evA tmps i with | some v,some k=>val1 (exIndex P t v k) H | _,_=>none
 | .index t x i => match evA tmps x, evA tmps i with
  | some (.agg cs), some (.int _ i) => match P.underlying t with
   | some (.array len e) => match sizeT P e with
    | some n=>if 0≤i∧i<len then val1 (partA P e cs.toList (i.toNat * n)) H else none
    | none=>none
   | _=>none
  | some (.string s),some (.int k i)=>val1 (ifGround (pureRun P (Instr.index t (.string s) (.int k i)))) H
  | _,_=>none
 | .lookup t x i ok=>match evA tmps x,evA tmps i with | some v,some k=>val1 (exLookup P t v k ok H) H | _,_=>none
 | .mapUpdate t m k x | .insert t m k x=>match evA tmps m,evA tmps k,evA tmps x with | some v,some q,some u=>skip1 (exMapPut P t v q u H) | _,_,_=>none
 | .extract t i => match evA tmps t with
  | some (.tuple vs)=>val1 vs.toList[i]? H
  | _=>none
 | .call c=>exCallOp P call c tmps H
 | .panic x => match evA tmps x with
  | some (.iface t v)=>some (.pan (.iface t v),H)
  | _=>none
 | _=>none
def putA (tmps:List Value)(dst:Option Tmp)(v:Value):List Value :=
 match dst with
 | some d=>tmps.set d v
 | none=>tmps
def wantA (ops:List Oper)(o:Oper)(tmps:List Value):Bool :=
 match o.guard with
 | none=>true
 | some (j, w) => match (ops[j]?).bind (·.dst) with
  | some d => match tmps[d]? with
   | some (.bool b)=>b == w
   | _=>false
  | none=>false
inductive ExA where
 | normal
 | exit (id:Nat)
 | goto (l:Nat)
 | ret
 | pan (v:Value)
 deriving Inhabited
structure St where
 t:List Value
 ds:List (FuncId × List Value)
 deriving Inhabited
abbrev ResA:=Option (ExA × St × Heap)
def exDefer (c:Call)(t:List Value):Option (FuncId × List Value) :=
 match c.callee,evL t c.args.toList with
 | .value f, some args => match evA t f with
  | some (.func (.func g) first captured)=>some (g,first.toList++args++captured.toList)
  | _=>none
 | _,_=>none
def deferOf:Op→Option Call
 | .defer c=>some c
 | _=>none
def exList (P:Program)(call:CallA)(ops:List Oper):List Oper→St→Heap→ResA
 | [],s,H=>some (.normal,s,H)
 | o :: rest, s, H =>
  match wantA ops o s.t with
  | false=>exList P call ops rest ⟨putA s.t o.dst undef,s.ds⟩ H
  | true => match deferOf o.op with
   | some c => match exDefer c s.t with
    | some d=>exList P call ops rest ⟨putA s.t o.dst undef,d :: s.ds⟩ H
    | none=>none
   | none => match exOp P call o.op s.t H with
    | none=>none
    | some (.pan v,H')=>some (.pan v,s,H')
    | some (.val v,H')=>exList P call ops rest ⟨putA s.t o.dst v,s.ds⟩ H'
def exResults (P:Program):List ResultVar→List Value→Heap→Option (List Value)
 | [],_,_=>some []
 | .tmp t :: rs,ts,H=>(exResults P rs ts H).map fun l=>ts.getD t undef :: l
 | .cell a ty :: rs, ts, H => match exLoad P ty (ts.getD a undef) H, exResults P rs ts H with
  | some v,some l=>some (v :: l)
  | _,_=>none
def tupleOf:List Value→Value
 | [v]=>v
 | l => .tuple ⟨l⟩
structure Runs where
 call:CallA
 code:Code→St→Heap→ResA
 scope:Code→Code→St→Heap→ResA
structure Hooks where
 has:FuncId→Bool
 run:CallA
def slotsAt (fn:Func)(args:List Value):List Value:=args++List.replicate (fn.ntmps - args.length) undef
def isNoPanic (P:Program)(ty:TypeId)(x y:Operand):Bool:=match pureRun P (do eqGuard .neq ty x y .nilIface .nilIface;binOp .neq ty .nilIface .nilIface)with
 | some (.bool false)=>true
 | _=>false
def isRec (P:Program)(fn:Func)(c:Code):Bool:=match c with
 | .seq (.region _ ops false) (.cond (.tmp k) _ .skip) => match ops with
  | ⟨[⟨some d, .call ⟨.builtin .recover, ⟨[]⟩, _⟩, _, _, _, none⟩, ⟨some k', .binOp .neq ty (.tmp d') (.const .nilIface) _, _, _, _, none⟩]⟩ =>
   Nat.beq d d' && (Nat.beq k k' && (Nat.blt d fn.ntmps && (Nat.blt k fn.ntmps && (fn.results.toList.isEmpty && (!(fn.name == "runtime.NumGoroutine") && isNoPanic P ty (.tmp d') (.const .nilIface))))))
  | _=>false
 | _=>false
def recFn (P:Program)(f:FuncId):Bool:=match P.funcs[f]? with
 | some fn => match fn.body with
  | some c=>isRec P fn c
  | none=>false
 | none=>false
structure CatQ where
 fn:Func
 ops:Array Oper
 d:Nat
 rest:Code
def catOf (fn:Func)(c:Code):Option CatQ:=match c with
 | .seq (.region _ ops false) rest => match ops with
  | ⟨⟨some d, .call ⟨.builtin .recover, ⟨[]⟩, _⟩, _, _, _, none⟩ :: _⟩ => match Nat.blt d fn.ntmps && (fn.results.toList.isEmpty && !(fn.name == "runtime.NumGoroutine")) with
   | true=>some ⟨fn,ops,d,rest⟩
   | false=>none
  | _=>none
 | _=>none
def catFn (P:Program)(f:FuncId):Option CatQ:=match P.funcs[f]? with
 | some fn => match fn.body with
  | some c => match isRec P fn c with
   | true=>none
   | false=>catOf fn c
  | none=>none
 | none=>none
def catRun (P:Program)(r:Runs)(q:CatQ)(args:List Value)(v:Value)(H:Heap):Option Heap :=
 match exList P r.call q.ops.toList (q.ops.toList.drop 1) ⟨putA (slotsAt q.fn args) (some q.d) v,[]⟩ H with
 | some (.normal, ⟨t, []⟩, H1) => match r.code q.rest ⟨t, []⟩ H1 with
  | some (.normal,⟨_,[]⟩,H2) | some (.ret,⟨_,[]⟩,H2)=>some H2
  | _=>none
 | _=>none
def catAt (P:Program)(E:Hooks)(e:ExA)(ds:List (FuncId × List Value)):Option (CatQ × List Value × Value):=match e,ds with
 | .pan v, [d] => match E.has d.1 with
  | true=>none
  | false => match catFn P d.1 with
   | some q=>some (q,d.2,v)
   | none=>none
 | _,_=>none
def recs (P:Program)(ds:List (FuncId × List Value)):Bool:=ds.any fun d=>recFn P d.1 || (catFn P d.1).isSome
def exLate (P:Program)(E:Hooks)(r:Runs)(f:FuncId)(args:List Value)(H:Heap):Option Heap :=
 match E.has f with
 | true=>none
 | false => match P.funcs[f]? with
  | some fn => match fn.body with
   | some c=>match isRec P fn c with
    | true=>some H
    | false=>match catOf fn c with
     | some q=>catRun P r q args .nilIface H
     | none => match fn.name == "runtime.NumGoroutine" with
      | true=>none
      | false=>match r.code c ⟨slotsAt fn args,[]⟩ H with
       | some (.normal,⟨t,[]⟩,H') | some (.ret,⟨t,[]⟩,H')=>(exResults P fn.results.toList t H').map fun _=>H'
       | _=>none
   | none=>none
  | none=>none
def exLeave (P:Program)(E:Hooks)(r:Runs):List (FuncId × List Value)→Heap→Option Heap
 | [],H=>some H
 | d :: ds, H => match exLate P E r d.1 d.2 H with
  | some H'=>exLeave P E r ds H'
  | none=>none
def exBody (P:Program)(E:Hooks)(r:Runs)(fn:Func)(c:Code)(args:List Value)(H:Heap):Option (Out × Heap) :=
 match r.code c ⟨slotsAt fn args,[]⟩ H with
 | some (e, s, H') => match catAt P E e s.ds with
  | some (q, as, v) => match catRun P r q as v H' with
   | some H2=>(exResults P fn.results.toList s.t H2).map fun l=>(.val (tupleOf l),H2)
   | none=>none
  | none => match exLeave P E r s.ds H' with
   | some H2 => match e with
    | .pan v=>match recs P s.ds with | true=>none | false=>some (.pan v,H2)
    | .normal | .ret=>(exResults P fn.results.toList s.t H2).map fun l=>(.val (tupleOf l),H2)
    | _=>none
   | none=>none
 | none=>none
def exCall (P:Program)(E:Hooks)(r:Runs)(f:FuncId)(args:List Value)(H:Heap):Option (Out × Heap) :=
 match E.has f with
 | true=>E.run f args H
 | false => match P.funcs[f]? with
  | some fn => match fn.body with
   | some c => match fn.name == "runtime.NumGoroutine" with
    | true=>none
    | false=>exBody P E r fn c args H
   | none=>none
  | none=>none
def exCode (P:Program)(r:Runs)(dr:List Oper→St→Heap→ResA)(c:Code)(s:St)(H:Heap):ResA :=
 match c with
 | .skip | .label _=>some (.normal,s,H)
 | .region _ ops draw => match draw with
  | false=>exList P r.call ops.toList ops.toList s H
  | true=>dr ops.toList s H
 | .seq a b => match r.code a s H with
  | some (.normal,s',H')=>r.code b s' H'
  | x=>x
 | .cond c x y => match evA s.t c with
  | some (.bool true)=>r.code x s H
  | some (.bool false)=>r.code y s H
  | _=>none
 | .block id c => match r.code c s H with
  | some (.exit id', s', H') => match Nat.beq id' id with
   | true=>some (.normal,s',H')
   | false=>some (.exit id',s',H')
  | x=>x
 | .loop c => match r.code c s H with
  | some (.normal,s',H')=>r.code (.loop c) s' H'
  | x=>x
 | .exit id=>some (.exit id,s,H)
 | .goto l=>some (.goto l,s,H)
 | .ret=>some (.ret,s,H)
 | .scope c=>r.scope c c s H
 | _=>none
def exScope (r:Runs)(body cur:Code)(s:St)(H:Heap):ResA :=
 match r.code cur s H with
 | some (.goto l, s', H') => match findLabel body l with
  | some rest=>r.scope body rest s' H'
  | none=>some (.goto l,s',H')
 | x=>x
def slotsOf (o:Oper):List Nat:=o.dst.toList++o.op.operands.toList.filterMap fun | .tmp t=>some t | _=>none
def namesA (ops:List Oper)(o:Oper):List Nat :=
 slotsOf o++(match o.guard with | some (j,_)=>((ops[j]?).bind (·.dst)).toList | none=>[])
def isW (P:Program)(o:Op):Bool :=
 match o with
 | .move _ | .assign _ | .pick .. | .build .. | .load .. | .nilCheck _ | .binOp .. | .unOp .. | .makeInterface .. | .makeFunc .. | .fieldAddr .. | .field .. | .indexAddr .. | .index .. | .lookup .. | .extract .. => false
 | .convert s d _ => match P.underlying s, P.underlying d with
  | some (.slice _),_=>true
  | _,some (.slice _)=>true
  | some _,some _=>false
  | _,_=>true
 | .call { callee := .builtin .len,.. } | .call { callee := .builtin .cap,.. } | .call { callee := .builtin .min,.. } | .call { callee := .builtin .max,.. }=>false
 | _=>true
def exOne (P:Program)(call:CallA)(ops:List Oper)(o:Oper)(t:List Value)(H:Heap):Option (Value × Heap) :=
 match wantA ops o t with
 | false=>some (undef,H)
 | true => match exOp P call o.op t H with
  | some (.val v,H')=>some (v,H')
  | _=>none
def exText (P:Program)(call:CallA)(ops:List Oper):List Oper→List Value→Heap→Option (List (List Value × Value) × List Heap × List Value × Heap)
 | [],t,H=>some ([],[],t,H)
 | o :: rest, t, H => match exOne P call ops o t H with
  | none=>none
  | some (v, H') => match exText P call ops rest (putA t o.dst v) H' with
   | none=>none
   | some (tr, hs, t', H2) => match isW P o.op with
    | true=>some ((t,v) :: tr,H' :: hs,t',H2)
    | false=>some ((t,v) :: tr,hs,t',H2)
def maskOf (ms:List Nat):List Edge→Nat
 | []=>0
 | e :: es => match Region.binds .any e with
  | true=>(2 ^ e.on ||| ms.getD e.on 0) ||| maskOf ms es
  | false=>maskOf ms es
def preGo (ms:List Nat):List Oper→List Nat
 | []=>ms
 | o :: os=>preGo (ms++[maskOf ms o.after.toList]) os
def preOf (ops:List Oper):List Nat:=preGo [] ops
def confA (ops:List Oper)(x y:Oper):Bool :=
 (match x.dst with | some d=>(namesA ops y).contains d | none=>false) ||
 (match y.dst with | some d=>(namesA ops x).contains d | none=>false)
def orderAt (P:Program)(ops:List Oper)(ms:List Nat)(i:Nat):Bool :=
 match ops[i]? with
 | none=>true
 | some oi => oi.after.toList.all (fun e => Nat.blt e.on i || !Region.binds .any e) && (List.range i).all fun j =>
  match ops[j]? with
  | none=>true
  | some oj=>(ms.getD i 0).testBit j || !(confA ops oi oj || (isW P oi.op && isW P oj.op))
def orderOK (P:Program)(ops:List Oper)(ms:List Nat):Bool:=(List.range ops.length).all (orderAt P ops ms)
def cntW (P:Program)(p:Nat→Bool):List Oper→Nat→Nat
 | [],_=>0
 | o :: rest,i=>(match isW P o.op && p i with | true=>1 | false=>0)+cntW P p rest (i+1)
def loW (P:Program)(ops:List Oper)(ms:List Nat)(i:Nat):Nat:=cntW P (fun j => !(Nat.beq j i) && (ms.getD i 0).testBit j) ops 0
def hiW (P:Program)(ops:List Oper)(ms:List Nat)(i:Nat):Nat:=cntW P (fun j => !(Nat.beq j i) && !(ms.getD j 0).testBit i) ops 0
def planFrom (P:Program)(ops:List Oper)(ms:List Nat):List Oper→Nat→List (Option (Nat × Nat))
 | [],_=>[]
 | o :: os, i => (match isW P o.op with
  | true=>none
  | false => match Nat.beq (loW P ops ms i) (hiW P ops ms i) with
   | true=>none
   | false=>some (loW P ops ms i,hiW P ops ms i - loW P ops ms i)) :: planFrom P ops ms os (i+1)
def planOf (P:Program)(ops:List Oper):Option (List (Option (Nat × Nat))) :=
 match orderOK P ops (preOf ops)with
 | true=>some (planFrom P ops (preOf ops) ops 0)
 | false=>none
def stableIn (P:Program)(call:CallA)(ops:List Oper)(o:Oper)(t:List Value)(v:Value):List Heap→Bool
 | []=>true
 | H :: Hs => match exOne P call ops o t H with
  | some (u, _) => match decV u v with
   | isTrue _=>stableIn P call ops o t v Hs
   | isFalse _=>false
  | none=>false
def stableAll (P:Program)(call:CallA)(ops:List Oper)(Ms:List Heap):List (Option (Nat × Nat))→List Oper→List (List Value × Value)→Bool
 | some (lo,k) :: pl,o :: os,(t,v) :: tr=>stableIn P call ops o t v ((Ms.drop lo).take (k+1)) && stableAll P call ops Ms pl os tr
 | none :: pl,_ :: os,_ :: tr=>stableAll P call ops Ms pl os tr
 | _,_,_=>true
def noCall:CallA:=fun _ _ _=>none
def isoCall (call:CallA):CallA:=fun f args H=>match groundL args with
 | true => match call f args Heap.empty with
  | some (.val v,_)=>match ground v with | true=>some (.val v,H) | false=>none
  | _=>none
 | false=>none
def isBS (P:Program)(s d:TypeId):Bool:=match P.underlying s,P.underlying d with
 | some (.slice _),some .string=>true
 | _,_=>false
def cutR (id off len cap n:Nat)(lo hi:Option Value)(r:Nat)(H:Heap):Option (Value × Heap) :=
 match boundOf 0 lo,boundOf len hi,H.get id with
 | some l, some h, .row own tl es cs =>
  if 0≤l∧l≤h∧h≤cap then
   match tl with
   | 0=>some (.slice (some ⟨id,if (cap:Int)=l then off else off+l.toNat * n,none⟩) (h.toNat - l.toNat) (cap - l.toNat),H)
   | _ =>
    if (cap:Int)=l∧l≠0 then
     match own,tl with
     | true,1=>some (.slice (some ⟨r,0,none⟩) 0 0,H.pushAt r (.row true 2 n []))
     | _,_=>none
    else some (.slice (some ⟨id,off+l.toNat * n,none⟩) (h.toNat - l.toNat) (cap - l.toNat),H)
  else none
 | _,_,_=>none
def exSliceAt (P:Program)(t:TypeId)(x:Value)(lo hi:Option Value)(r:Nat)(H:Heap):Option (Value × Heap) :=
 match P.underlying t,x with
 | some .string, .string s => match boundOf 0 lo, boundOf s.size hi with
  | some l,some h=>if 0≤l∧l≤h∧h≤s.size then some (.string (s.extract l.toNat h.toNat),H)else none
  | _,_=>none
 | some (.slice e), .slice (some ⟨id, off, none⟩) len cap => match sizeT P e with
  | some n=>cutR id off len cap n lo hi r H
  | none=>none
 | some (.slice e), .slice none 0 0 => match sizeT P e, boundOf 0 lo, boundOf 0 hi with
  | some _,some 0,some 0=>some (.slice none 0 0,H)
  | _,_,_=>none
 | _,_=>none
def exOpR (P:Program)(call:CallA)(o:Op)(t:List Value)(r:Nat)(H:Heap):Option (Out × Heap) :=
 match o with
 | .alloc ty=>val2 (exAllocAt P ty r H)
 | .box ty x=>match evA t x with | some v=>val2 (exBoxAt P ty v r H) | none=>none
 | .buildSlice ty n ps=>match evP t ps.toList with | some l=>val2 (exBuildSliceAt P ty n l r H) | none=>none
 | .makeMap _ none=>some (.val (.map (some r)),H.pushAt r (.map []))
 | .store ty a x=>exOp P noCall (.store ty a x) t H
 | .call ⟨.builtin .append, args, ts⟩ => match evL t args.toList with
  | some [s,x]=>val2 (exAppendAt P ts.toList s x r H)
  | _=>none
 | .call ⟨.value f,args,ts⟩=>exOp P (isoCall call) (.call ⟨.value f,args,ts⟩) t H
 | .convert sr ds x=>match isBS P sr ds || !isW P (.convert sr ds x)with | true=>exOp P noCall (.convert sr ds x) t H | false=>none
 | .slice ty x lo hi none => match evA t x, evO t lo, evO t hi with
  | some v,some l,some h=>val2 (exSliceAt P ty v l h r H)
  | _,_,_=>none
 | o=>match isW P o with | true=>none | false=>exOp P noCall o t H
def needR:Op→Nat
 | .alloc _ | .box _ _ | .buildSlice _ _ _ | .makeMap _ _=>1
 | .call ⟨.builtin .append,_,_⟩=>1
 | .slice _ _ _ _ _=>1
 | _=>0
def exOneR (P:Program)(call:CallA)(ops:List Oper)(o:Oper)(t:List Value)(r:Nat)(H:Heap):Option (Value × Heap) :=
 match wantA ops o t with
 | false=>some (undef,H)
 | true => match exOpR P call o.op t r H with
  | some (.val v,H')=>some (v,H')
  | _=>none
def idsV:Value→List Nat
 | .pointer (some a)=>[a.block]
 | .slice (some a) _ _=>[a.block]
 | .map (some i)=>[i]
 | _=>[]
def idsO (t:List Value)(x:Operand):List Nat:=match evA t x with | some v=>idsV v | none=>[]
def mapIds:Value→List Nat
 | .map (some i)=>[i]
 | _=>[]
def readR (P:Program)(o:Op)(t:List Value):List Nat :=
 match o with
 | .load _ a=>idsO t a
 | .lookup _ x _ _=>idsO t x
 | .convert _ _ x=>idsO t x
 | .fieldAddr s x f => match P.underlying s with
  | some (.struct fields) => match fields[f]? with
   | some fl => match sizeT P fl.type with
    | some 0=>idsO t x
    | _=>[]
   | none=>[]
  | _=>[]
 | .call ⟨.builtin .len,args,_⟩=>args.toList.flatMap fun x=>match evA t x with | some v=>mapIds v | none=>[]
 | .call ⟨.builtin .cap,args,_⟩=>args.toList.flatMap (idsO t)
 | _=>[]
def touchR (P:Program)(o:Op)(t:List Value)(r:Nat):List Nat × List Nat :=
 match o with
 | .alloc _ | .box _ _ | .buildSlice _ _ _ | .makeMap _ _=>([r],[])
 | .store _ a _=>(idsO t a,[])
 | .call ⟨.builtin .append, args, _⟩ => (match args.toList with
  | s :: _=>r :: idsO t s
  | _=>[],args.toList.flatMap (idsO t))
 | .slice _ x _ _ _=>([r],idsO t x)
 | o=>([],readR P o t)
structure StepR where
 t:List Value
 v:Value
 W:List Nat
 R:List Nat
 H:Heap
def exFreeT (P:Program)(call:CallA)(ops:List Oper):List Oper→List Value→Nat→Heap→Option (List StepR × List Value × Heap)
 | [],t,_,H=>some ([],t,H)
 | o :: rest, t, r, H => match exOneR P call ops o t r H with
  | none=>none
  | some (v, H') => match exFreeT P call ops rest (putA t o.dst v) (r + needR o.op) H' with
   | none=>none
   | some (st,t',H2)=>some (⟨t,v,(touchR P o.op t r).1,(touchR P o.op t r).2,H'⟩ :: st,t',H2)
def clash (a b:StepR):Bool:=a.W.any (fun x=>b.W.elem x || b.R.elem x) || b.W.any (fun x=>a.R.elem x)
def apartAt (ms:List Nat)(st:List StepR)(i:Nat):Bool:=(List.range i).all fun j=>match st[i]?,st[j]? with
 | some a,some b=>(ms.getD i 0).testBit j || !clash a b
 | _,_=>true
def apartAll (ms:List Nat)(st:List StepR):Bool:=(List.range st.length).all (apartAt ms st)
def freeAt (ops:List Oper)(ms:List Nat)(i:Nat):Bool :=
 match ops[i]? with
 | none=>true
 | some oi => oi.after.toList.all (fun e => Nat.blt e.on i || !Region.binds .any e) && (List.range i).all fun j =>
  match ops[j]? with
  | none=>true
  | some oj=>(ms.getD i 0).testBit j || !(confA ops oi oj)
def freeOK (ops:List Oper)(ms:List Nat):Bool:=(List.range ops.length).all (freeAt ops ms)
def needAll:List Oper→Nat
 | []=>0
 | o :: os=>needR o.op+needAll os
def Heap.room:Nat→Heap→Heap
 | 0,H=>H
 | k+1,H=>Heap.room k (H.push .dead)
def exFree (P:Program)(call:CallA)(ops:List Oper)(s:St)(H:Heap):ResA :=
 match freeOK ops (preOf ops)with
 | false=>none
 | true => match exFreeT P call ops ops s.t H.n (H.room (needAll ops)) with
  | none=>none
  | some (st, t', H2) => match apartAll (preOf ops) st with
   | true=>some (.normal,⟨t',s.ds⟩,H2)
   | false=>none
def isAlloc (o:Oper):Bool:=match o.op with | .alloc _=>true | _=>false
def blank (o:Oper):Oper:=match o.op with
 | .alloc _=>⟨none,.assign (.const (.bool false)),o.type,o.pos,o.after,none⟩
 | _=>o
def lateA (ops:List Oper):List Oper:=(ops.take (ops.length - 1)).map blank
def findAlloc:List Oper→Nat→Option (Nat × Nat × TypeId)
 | [],_=>none
 | o :: os, i => match o.op, o.dst with
  | .alloc ty,some d=>some (i,d,ty)
  | .alloc _,none=>none
  | _,_=>findAlloc os (i+1)
def allocAt (p d:Nat)(ty:TypeId)(ops:List Oper):Bool:=match ops[p]? with
 | some oa=>(match oa.op with | .alloc ty'=>Nat.beq ty' ty | _=>false) && ((match oa.dst with | some d'=>Nat.beq d' d | none=>false) && oa.guard.isNone)
 | none=>false
def otherAt (p d:Nat)(ops:List Oper)(i:Nat):Bool:=Nat.beq i p || (match ops[i]? with | some o => !isAlloc o && (o.guard.isNone && !(slotsOf o).contains d) | none=>true)
def isVCall (o:Oper):Bool:=match o.op with | .call ⟨.value _,_,_⟩=>true | _=>false
def isStore (o:Oper):Bool:=match o.op with | .store .. => true | _=>false
def lateOK (ops:List Oper)(p d:Nat)(ty:TypeId)(os:Oper):Bool :=
 isStore os && (ops.any isVCall && (Nat.blt (p+1) ops.length && (os.dst.isNone && (os.guard.isNone && (allocAt p d ty ops && ((List.range (ops.length - 1)).all (otherAt p d ops) &&
  (freeOK ops (preOf ops) && (List.range (ops.length - 1)).all fun j=>((preOf ops).getD (ops.length - 1) 0).testBit j)))))))
structure LateQ where
 p:Nat
 d:Nat
 ty:TypeId
 os:Oper
def lateAt (ops:List Oper):Option LateQ:=match findAlloc ops 0,ops[ops.length - 1]? with
 | some (p,d,ty),some os=>match lateOK ops p d ty os with | true=>some ⟨p,d,ty,os⟩ | false=>none
 | _,_=>none
def exLast (P:Program)(q:LateQ)(z:Value)(r:Nat)(ds:List (FuncId × List Value))(t':List Value)(H1:Heap):ResA :=
 match Nat.blt r H1.n,H1.get r with
 | true, .dead => match exOp P noCall q.os.op (putA t' (some q.d) (.pointer (some ⟨r, 0, none⟩))) (H1.set r (varObj P q.ty z.cells.toList)) with
  | some (.val _,H2)=>some (.normal,⟨putA t' (some q.d) (.pointer (some ⟨r,0,none⟩)),ds⟩,H2)
  | _=>none
 | _,_=>none
def exLate2 (P:Program)(call:CallA)(ops:List Oper)(q:LateQ)(s:St)(H:Heap):ResA :=
 match zeroT P q.ty,planOf P (lateA ops)with
 | some z, some pl => match exText P call (lateA ops) (lateA ops) s.t (H.push .dead) with
  | none=>none
  | some (tr, hs, t', H1) => match stableAll P call (lateA ops) (H.push .dead :: hs) pl (lateA ops) tr with
   | true=>exLast P q z H.n s.ds t' H1
   | false=>none
 | _,_=>none
def exNoPlan (P:Program)(call:CallA)(ops:List Oper)(s:St)(H:Heap):ResA:=match lateAt ops with
 | some q=>exLate2 P call ops q s H
 | none=>exFree P call ops s H
def exDraw (P:Program)(call:CallA)(ops:List Oper)(s:St)(H:Heap):ResA :=
 match planOf P ops with
 | none=>exNoPlan P call ops s H
 | some pl => match exText P call ops ops s.t H with
  | none=>none
  | some (tr, hs, t', H2) => match stableAll P call ops (H :: hs) pl ops tr with
   | true=>some (.normal,⟨t',s.ds⟩,H2)
   | false=>none
def runs (P:Program)(E:Hooks):Nat→Runs
 | 0=>⟨fun _ _ _=>none,fun _ _ _=>none,fun _ _ _ _=>none⟩
 | n + 1 =>
  ⟨fun f args H => exCall P E (runs P E n) f args H,
   fun c s H=>exCode P (runs P E n) (exDraw P (runs P E n).call) c s H,
   fun b c s H=>exScope (runs P E n) b c s H⟩
end Go.Vm
namespace Go.Vm
open Go.RowKit
abbrev Lay:=Nat→Option (Nat × Nat × Nat)
def Lay.le (L L':Lay):Prop:=∀ id x,L id=some x→L' id=some x
theorem Lay.le_refl (L:Lay):L.le L:=fun _ _ h=>h
theorem Lay.le_trans {A B C:Lay}(h:A.le B)(k:B.le C):A.le C:=fun i x e=>k i x (h i x e)
inductive VR (L:Lay):Value→Value→Prop
 | bool (b:Bool):VR L (.bool b) (.bool b)
 | int (k:IntKind) (n:Int):VR L (.int k n) (.int k n)
 | float (k:FloatKind) (n:Nat):VR L (.float k n) (.float k n)
 | complex (k:FloatKind) (n m:Nat):VR L (.complex k n m) (.complex k n m)
 | string (s:ByteArray):VR L (.string s) (.string s)
 | pnil:VR L (.pointer none) (.pointer none)
 | ptr (id off b o t:Nat) (h:L id=some (b,o,t)):VR L (.pointer (some ⟨id,off,none⟩)) (.pointer (some ⟨b,o+off,none⟩))
 | snil (l c:Nat):VR L (.slice none l c) (.slice none l c)
 | slice (id off l c b o t:Nat) (h:L id=some (b,o,t)):VR L (.slice (some ⟨id,off,none⟩) l c) (.slice (some ⟨b,o+off,none⟩) l (c+t))
 | mnil:VR L (.map none) (.map none)
 | map (id b o t:Nat) (h:L id=some (b,o,t)):VR L (.map (some id)) (.map (some b))
 | cnil:VR L (.chan none) (.chan none)
 | func (fn:Fn) (x x' y y':List Value) (hx:x.length=x'.length) (hy:y.length=y'.length)
   (ex:∀ i (h:i<x.length) (h':i<x'.length),VR L x[i] x'[i]) (ey:∀ i (h:i<y.length) (h':i<y'.length),VR L y[i] y'[i]) :
   VR L (.func fn ⟨x⟩ ⟨y⟩) (.func fn ⟨x'⟩ ⟨y'⟩)
 | nilFunc:VR L .nilFunc .nilFunc
 | iface (t:TypeId) (v v':Value) (h:VR L v v'):VR L (.iface t v) (.iface t v')
 | nilIface:VR L .nilIface .nilIface
 | agg (x x':List Value) (hx:x.length=x'.length) (ex:∀ i (h:i<x.length) (h':i<x'.length),VR L x[i] x'[i])
   (e1:∀ i (h:i<x.length),x[i].oneCell'=true):VR L (.agg ⟨x⟩) (.agg ⟨x'⟩)
 | tuple (x x':List Value) (hx:x.length=x'.length) (ex:∀ i (h:i<x.length) (h':i<x'.length),VR L x[i] x'[i]):VR L (.tuple ⟨x⟩) (.tuple ⟨x'⟩)
def LR (L:Lay)(x x':List Value):Prop:=x.length=x'.length∧∀ i (h:i<x.length) (h':i<x'.length),VR L x[i] x'[i]
def One (x:List Value):Prop:=∀ i (h:i<x.length),x[i].oneCell'=true
theorem VR.mono {L L':Lay}(hl:L.le L'){v v':Value}(h:VR L v v'):VR L' v v':=by
 induction h with
 | bool b=>exact .bool b
 | int k n=>exact .int k n
 | float k n=>exact .float k n
 | complex k n m=>exact .complex k n m
 | string s=>exact .string s
 | pnil=>exact .pnil
 | ptr id off b o t h=>exact .ptr id off b o t (hl _ _ h)
 | snil l c=>exact .snil l c
 | slice id off l c b o t h=>exact .slice id off l c b o t (hl _ _ h)
 | mnil=>exact .mnil
 | map id b o t h=>exact .map id b o t (hl _ _ h)
 | cnil=>exact .cnil
 | func fn x x' y y' hx hy _ _ ihx ihy=>exact .func fn x x' y y' hx hy ihx ihy
 | nilFunc=>exact .nilFunc
 | iface t v v' _ ih=>exact .iface t v v' ih
 | nilIface=>exact .nilIface
 | agg x x' hx _ e1 ih=>exact .agg x x' hx ih e1
 | tuple x x' hx _ ih=>exact .tuple x x' hx ih
theorem LR.mono {L L':Lay}(hl:L.le L'){x x':List Value}(h:LR L x x'):LR L' x x':=⟨h.1,fun i h1 h2=>(h.2 i h1 h2).mono hl⟩
theorem LR.nil (L:Lay):LR L [] []:=⟨rfl,fun i h=>by simp at h⟩
theorem LR.cons {L:Lay}{v v':Value}{x x':List Value}(h:VR L v v')(hs:LR L x x'):LR L (v :: x) (v' :: x'):=by
 refine⟨by simp[hs.1],fun i h1 h2 => ?_⟩
 cases i with
 | zero=>exact h
 | succ i=>exact hs.2 i (by simpa using h1) (by simpa using h2)
theorem LR.head {L:Lay}{v v':Value}{x x':List Value}(h:LR L (v :: x) (v' :: x')):VR L v v':=h.2 0 (by simp) (by simp)
theorem LR.tail {L:Lay}{v v':Value}{x x':List Value}(h:LR L (v :: x) (v' :: x')):LR L x x' :=
 ⟨by simpa using h.1,fun i h1 h2=>h.2 (i+1) (by simpa using h1) (by simpa using h2)⟩
theorem LR.cases_cons {L:Lay}{v:Value}{x x':List Value}(h:LR L (v :: x) x'):∃ v' y',x'=v' :: y'∧VR L v v'∧LR L x y':=by
 cases x' with
 | nil=>simp[LR]at h
 | cons v' y'=>exact⟨v',y',rfl,h.head,h.tail⟩
theorem LR.cases_nil {L:Lay}{x':List Value}(h:LR L [] x'):x'=[]:=by
 cases x' with
 | nil=>rfl
 | cons v' y'=>simp[LR]at h
theorem LR.get? {L:Lay}{x x':List Value}(h:LR L x x'){i:Nat}{v:Value}(hi:x[i]? = some v):∃ v',x'[i]? = some v'∧VR L v v':=by
 obtain⟨h1,e⟩:=List.getElem?_eq_some_iff.1 hi
 exact⟨x'[i]'(h.1 ▸ h1),by simp,e ▸ h.2 i h1 _⟩
theorem LR.append {L:Lay}{x x' y y':List Value}(h:LR L x x')(k:LR L y y'):LR L (x++y) (x'++y'):=by
 refine⟨by simp[h.1,k.1],fun i h1 h2 => ?_⟩
 have e:=h.1
 simp only[List.getElem_append]
 by_cases c:i<x.length
 · rw[dif_pos c,dif_pos (by omega)];exact h.2 _ _ _
 · rw[dif_neg c,dif_neg (by omega)]
   have:i - x.length=i - x'.length:=by omega
   have:=k.2 (i - x.length) (by simp at h1;omega) (by simp at h2;omega)
   simpa [h.1] using this
theorem LR.take {L:Lay}{x x':List Value}(h:LR L x x')(n:Nat):LR L (x.take n) (x'.take n):=by
 refine⟨by simp[h.1],fun i h1 h2 => ?_⟩
 simp only[List.getElem_take]
 exact h.2 _ _ _
theorem LR.drop {L:Lay}{x x':List Value}(h:LR L x x')(n:Nat):LR L (x.drop n) (x'.drop n):=by
 refine⟨by simp[h.1],fun i h1 h2 => ?_⟩
 simp only[List.getElem_drop]
 exact h.2 _ _ _
theorem LR.getD {L:Lay}{x x':List Value}(h:LR L x x')(i:Nat){d:Value}(hd:VR L d d):VR L (x.getD i d) (x'.getD i d):=by
 have e:=h.1
 simp only[List.getD_eq_getElem?_getD]
 by_cases c:i<x.length
 · rw[List.getElem?_eq_getElem c,List.getElem?_eq_getElem (by omega)];exact h.2 _ _ _
 · rw[List.getElem?_eq_none (by omega),List.getElem?_eq_none (by omega)];exact hd
theorem LR.set {L:Lay}{x x':List Value}(h:LR L x x')(i:Nat){v v':Value}(hv:VR L v v'):LR L (x.set i v) (x'.set i v'):=by
 refine⟨by simp[h.1],fun j h1 h2 => ?_⟩
 simp only[List.getElem_set]
 by_cases c:i=j
 · rw[if_pos c,if_pos c];exact hv
 · rw[if_neg c,if_neg c];exact h.2 _ _ _
theorem One.append {x y:List Value}(h:One x)(k:One y):One (x++y):=by
 intro i h1
 simp only[List.getElem_append]
 split
 · exact h _ _
 · exact k _ _
theorem One.take {x:List Value}(h:One x)(n:Nat):One (x.take n):=fun i h1=>by simp only[List.getElem_take];exact h _ _
theorem One.drop {x:List Value}(h:One x)(n:Nat):One (x.drop n):=fun i h1=>by simp only[List.getElem_drop];exact h _ _
theorem One.nil:One []:=fun i h=>by simp at h
theorem One.single {v:Value}(h:v.oneCell'=true):One [v]:=fun i h1=>by
 have:i=0:=by simpa using h1
 subst this;exact h
theorem vr_undef (L:Lay):VR L undef undef := .tuple [] [] rfl (fun i h=>by simp at h)
theorem oneL_one:∀ {x:List Value},oneL x=true→One x
 | [],_=>One.nil
 | v :: vs, h => by
  simp only[oneL,Bool.and_eq_true]at h
  intro i hi
  cases i with
  | zero=>exact h.1
  | succ i=>exact oneL_one h.2 i (by simpa using hi)
mutual
theorem ground_VR (L:Lay):∀ v:Value,ground v=true→VR L v v
 | .bool b,_ => .bool b
 | .int k n,_ => .int k n
 | .float k n,_ => .float k n
 | .complex k n m,_ => .complex k n m
 | .string s,_ => .string s
 | .pointer none,_ => .pnil
 | .pointer (some _),h=>by simp[ground]at h
 | .slice none l c,_ => .snil l c
 | .slice (some _) _ _,h=>by simp[ground]at h
 | .map none,_ => .mnil
 | .map (some _),h=>by simp[ground]at h
 | .chan none,_ => .cnil
 | .chan (some _),h=>by simp[ground]at h
 | .func fn ⟨x⟩ ⟨y⟩, h => by
  simp only[ground,Bool.and_eq_true,groundA]at h
  exact .func fn x x y y rfl rfl (groundL_LR L x h.1).2 (groundL_LR L y h.2).2
 | .nilFunc,_ => .nilFunc
 | .iface t v,h => .iface t v v (ground_VR L v (by simpa [ground] using h))
 | .nilIface,_ => .nilIface
 | .agg ⟨x⟩, h => by
  simp only[ground,Bool.and_eq_true,groundA,oneA]at h
  exact .agg x x rfl (groundL_LR L x h.1).2 (oneL_one h.2)
 | .tuple ⟨x⟩, h => by
  simp only[ground,groundA]at h
  exact .tuple x x rfl (groundL_LR L x h).2
theorem groundL_LR (L:Lay):∀ x:List Value,groundL x=true→LR L x x
 | [],_=>LR.nil L
 | v :: vs, h => by
  simp only[groundL,Bool.and_eq_true]at h
  exact (groundL_LR L vs h.2).cons (ground_VR L v h.1)
end
theorem groundL_get:∀ {x:List Value},groundL x=true→∀ i (h:i<x.length),ground x[i]=true
 | v :: vs, h, i, hi => by
  simp only[groundL,Bool.and_eq_true]at h
  cases i with
  | zero=>exact h.1
  | succ i=>exact groundL_get h.2 i (by simpa using hi)
theorem VR.ground_eq {L:Lay}{v v':Value}(h:VR L v v'):ground v=true→v'=v:=by
 induction h with
 | func fn x x' y y' hx hy ex ey ihx ihy =>
  intro g
  simp only[ground,Bool.and_eq_true,groundA]at g
  have e1:x'=x:=List.ext_getElem hx.symm fun i h1 h2=>ihx i h2 h1 (groundL_get g.1 i h2)
  have e2:y'=y:=List.ext_getElem hy.symm fun i h1 h2=>ihy i h2 h1 (groundL_get g.2 i h2)
  rw[e1,e2]
 | agg x x' hx ex e1 ih =>
  intro g
  simp only[ground,Bool.and_eq_true,groundA]at g
  rw[List.ext_getElem hx.symm fun i h1 h2=>ih i h2 h1 (groundL_get g.1 i h2)]
 | tuple x x' hx ex ih =>
  intro g
  simp only[ground,groundA]at g
  rw[List.ext_getElem hx.symm fun i h1 h2=>ih i h2 h1 (groundL_get g i h2)]
 | iface t v v' _ ih=>intro g;rw[ih (by simpa [ground] using g)]
 | ptr=>intro g;simp[ground]at g
 | slice=>intro g;simp[ground]at g
 | map=>intro g;simp[ground]at g
 | _=>intro _;rfl
theorem LR.ground_eq {L:Lay}:∀ {x x':List Value},LR L x x'→groundL x=true→x'=x
 | [],x',h,_=>h.cases_nil
 | v :: vs, x', h, g => by
  obtain⟨v',y',rfl,h1,h2⟩:=h.cases_cons
  simp only[groundL,Bool.and_eq_true]at g
  rw[h1.ground_eq g.1,h2.ground_eq g.2]
theorem VR.oneCell {L:Lay}{v v':Value}(h:VR L v v'):v'.oneCell'=v.oneCell':=by cases h<;>rfl
theorem LR.one {L:Lay}{x x':List Value}(h:LR L x x')(k:One x):One x':=fun i hi=>by
 rw[(h.2 i (h.1 ▸ hi) hi).oneCell];exact k i _
theorem VR.cells {L:Lay}{v v':Value}(h:VR L v v')(ht:isTuple v=false):LR L v.cells.toList v'.cells.toList∧One v.cells.toList:=by
 cases h with
 | agg x x' hx ex e1=>exact⟨⟨hx,ex⟩,e1⟩
 | tuple=>simp[isTuple]at ht
 | _=>exact⟨(LR.nil L).cons (by constructor<;>assumption),One.single rfl⟩
theorem ifGround_some {o:Option Value}{v:Value}(h:ifGround o=some v):o=some v∧ground v=true:=by
 cases o with
 | none=>simp[ifGround]at h
 | some u =>
  simp only[ifGround]at h
  cases g:ground u with
  | true=>rw[g]at h;simp at h;subst h;exact⟨rfl,g⟩
  | false=>rw[g]at h;simp at h
structure Th where
 n:Nat
 g:Nat→Option Obj
 d:Nat→Bool
instance:Coe Nat Th:=⟨fun n=>⟨n,fun _=>none,fun _=>false⟩⟩
def Th.own (N:Th)(b:Nat):Prop:=N.n≤b∧N.g b=none
def CellsAt (L:Lay)(w:World)(b o:Nat)(cs:List Value):Prop:=∀ k (h:k<cs.length),∃ v',w.cell? ⟨b,o+k,none⟩=some v'∧VR L cs[k] v'
def MapRel (L:Lay)(es:List (Value × Value))(l:List MapEntry):Prop :=
 es.length=l.length∧∀ i (h:i<es.length) (h':i<l.length),l[i].key=es[i].1∧ground es[i].1=true∧VR L es[i].2 l[i].val
def spareOf (tl t es:Nat):Nat:=if tl=1 then t * es else 0
def ObjOK (N:Th)(L:Lay)(w:World):AObj→Option (Nat × Nat × Nat)→Prop
 | .dead,_=>True
 | .row own tl es cs,some (b,o,t)=>CellsAt L w b o cs∧One cs∧(tl=0→t=0)∧(own=false→b<N.n)∧(own=true→N.own b∧b<w.heap.size∧w.there b o (cs.length+spareOf tl t es))
 | .map es,some (b,_,_)=>N.own b∧∃ arr clock,w.heap[b]? = some (.map arr clock)∧MapRel L es arr.toList
 | .siter s pos,some (b,o,_)=>N.own b∧o=0∧w.heap[b]? = some (.stringIter s pos)
 | .unit e,some (b,o,_)=>N.own b∧o=0∧∃ c fr,w.heap[b]? = some (.cells c e fr)
 | _,none=>False
def Owns:AObj→Option (Nat × Nat × Nat)→Nat→Nat→Prop
 | .row true tl es cs,some (b,o,t),b',k=>b'=b∧o≤k∧k<o+(cs.length+spareOf tl t es)
 | .map _,some (b,_,_),b',_=>b'=b
 | .siter _ _,some (b,_,_),b',_=>b'=b
 | _,_,_,_=>False
def calmObj:Obj→Prop
 | .cells c _ fr=>fr.1=fr.2∨c.size≤fr.1
 | _=>True
def Calm (N:Th)(L:Lay)(w:World):Prop:=∀ id b o t,L id=some (b,o,t)→N.n≤b→∃ ob,w.heap[b]? = some ob∧calmObj ob
theorem Calm.alloc {N:Th}{L:Lay}{w:World}(h:Calm N L w)(o:Obj):Calm N L (w.alloc o):=by
 intro id b o' t hl hb
 obtain⟨ob,h1,h2⟩:=h id b o' t hl hb
 obtain⟨hlt,_⟩:=Array.getElem?_eq_some_iff.1 h1
 exact⟨ob,by rw[Below.heap_alloc _ _ _ hlt];exact h1,h2⟩
theorem Calm.modify {N:Th}{L:Lay}{w w':World}(h:Calm N L w){c:Nat}{f:Obj→Obj}(hw:w'.heap=w.heap.modify c f)(hf:∀ o,calmObj o→calmObj (f o)):Calm N L w':=by
 intro id b o t hl hb
 obtain⟨ob,h1,h2⟩:=h id b o t hl hb
 rw[hw,Array.getElem?_modify]
 split
 · exact⟨f ob,by rw[h1];rfl,hf _ h2⟩
 · exact⟨ob,h1,h2⟩
theorem Calm.setCell {N:Th}{L:Lay}{w:World}(h:Calm N L w)(a:Addr)(u:Value):Calm N L (w.setCell a u):=by
 refine h.modify (c:=a.block) (f:=fun
   | .cells c elem frozen => .cells (if a.spot.isSome then c else c.setIfInBounds a.off u) elem frozen
   | o=>o) rfl ?_
 intro o ho
 cases o<;>first | trivial | skip
 rename_i c e fr
 simp only[calmObj]at ho ⊢
 split<;>simpa using ho
theorem Calm.setCells {N:Th}{L:Lay}(b:Nat):∀ (vs:List Value)(o:Nat)(w:World),Calm N L w→Calm N L (w.setCells b o vs)
 | [],o,w,h=>h
 | v :: vs,o,w,h=>Calm.setCells b vs (o+1) _ (h.setCell ⟨b,o,none⟩ v)
structure Sim (N:Th)(W0:World)(L:Lay)(H:Heap)(w:World):Prop where
 below:Below N.n W0 w
 base:N.n≤w.heap.size
 ghost:∀ b o,N.g b=some o→w.heap[b]? = some o
 void:∀ id,N.d id=true→id<H.n∧L id=none
 fresh:∀ id,H.n≤id→L id=none
 obj:∀ id,ObjOK N L w (H.get id) (L id)
 apart:∀ i j b k,i≠j→Owns (H.get i) (L i) b k→Owns (H.get j) (L j) b k→False
 calm:Calm N L w
theorem Sim.new {N:Th}{W0:World}{L:Lay}{H:Heap}{w:World}(S:Sim N W0 L H w):N.own w.heap.size:=by
 refine⟨S.base,?_⟩
 cases h:N.g w.heap.size with
 | none=>rfl
 | some o =>
  obtain⟨hb,_⟩:=Array.getElem?_eq_some_iff.1 (S.ghost _ _ h)
  omega
theorem MapRel.mono {L L':Lay}(hl:L.le L'){es:List (Value × Value)}{l:List MapEntry}(h:MapRel L es l):MapRel L' es l :=
 ⟨h.1,fun i h1 h2=>⟨(h.2 i h1 h2).1,(h.2 i h1 h2).2.1,((h.2 i h1 h2).2.2).mono hl⟩⟩
theorem ObjOK.mono {N:Th}{L L':Lay}{w:World}(hl:L.le L'){o:AObj}{l:Option (Nat × Nat × Nat)}(h:ObjOK N L w o l):ObjOK N L' w o l:=by
 cases o with
 | dead=>trivial
 | row own tl es cs =>
  cases l with
  | none=>exact h.elim
  | some p =>
   obtain⟨b,o,t⟩:=p
   exact⟨fun k hk=>let ⟨v',e,r⟩:=h.1 k hk;⟨v',e,r.mono hl⟩,h.2⟩
 | map es =>
  cases l with
  | none=>exact h.elim
  | some p =>
   obtain⟨b,o,t⟩:=p
   obtain⟨h1,arr,clock,h2,h3⟩:=h
   exact⟨h1,arr,clock,h2,h3.mono hl⟩
 | siter s pos =>
  cases l with
  | none=>exact h.elim
  | some p=>exact h
 | unit e =>
  cases l with
  | none=>exact h.elim
  | some p=>exact h
theorem cell_lt {w:World}{b k:Nat}{v:Value}(h:w.cell? ⟨b,k,none⟩=some v):b<w.heap.size:=World.block_lt_of_cell? (w:=w) (a:=⟨b,k,none⟩) h
theorem ObjOK.world {N:Th}{L:Lay}{w w':World}(hw:∀ b,b<w.heap.size→w'.heap[b]? = w.heap[b]?){o:AObj}{l:Option (Nat × Nat × Nat)}
  (h:ObjOK N L w o l):ObjOK N L w' o l:=by
 have hc:∀ b k v,w.cell? ⟨b,k,none⟩=some v→w'.cell? ⟨b,k,none⟩=some v:=fun b k v e=>by
  rw[World.cell?_of_block (w:=w) (hw b (cell_lt e))];exact e
 cases o with
 | dead=>trivial
 | row own tl es cs =>
  cases l with
  | none=>exact h.elim
  | some p =>
   obtain⟨b,o,t⟩:=p
   obtain⟨h1,h2,h3,h4,h5⟩:=h
   refine⟨fun k hk => ?_,h2,h3,h4,fun ho=>⟨(h5 ho).1,by have:=hw b (h5 ho).2.1;rw[Array.getElem?_eq_getElem (h5 ho).2.1]at this;exact (Array.getElem?_eq_some_iff.1 this).1,fun j hj => ?_⟩⟩
   · obtain⟨v',e,r⟩:=h1 k hk
     exact⟨v',hc _ _ _ e,r⟩
   · obtain⟨e1,e2⟩:=(h5 ho).2.2 j hj
     obtain⟨v,e⟩:=Option.isSome_iff_exists.1 e1
     refine⟨by rw[hc _ _ _ e];rfl,?_⟩
     rw[World.frozen?_of_block (w:=w) (hw b (cell_lt e))];exact e2
 | map es =>
  cases l with
  | none=>exact h.elim
  | some p =>
   obtain⟨b,o,t⟩:=p
   obtain⟨h1,arr,clock,h2,h3⟩:=h
   refine⟨h1,arr,clock,?_,h3⟩
   rw[hw b (by obtain⟨hb,_⟩:=Array.getElem?_eq_some_iff.1 h2;exact hb)];exact h2
 | siter s pos =>
  cases l with
  | none=>exact h.elim
  | some p =>
   obtain⟨b,o,t⟩:=p
   obtain⟨h1,h2,h3⟩:=h
   refine⟨h1,h2,?_⟩
   rw[hw b (by obtain⟨hb,_⟩:=Array.getElem?_eq_some_iff.1 h3;exact hb)];exact h3
 | unit e =>
  cases l with
  | none=>exact h.elim
  | some p =>
   obtain⟨b,o,t⟩:=p
   obtain⟨h1,h2,c,fr,h3⟩:=h
   refine⟨h1,h2,c,fr,?_⟩
   rw[hw b (by obtain⟨hb,_⟩:=Array.getElem?_eq_some_iff.1 h3;exact hb)];exact h3
theorem Owns.lt {N:Th}{L:Lay}{w:World}{o:AObj}{l:Option (Nat × Nat × Nat)}(h:ObjOK N L w o l){b k:Nat}(ho:Owns o l b k):N.own b∧b<w.heap.size:=by
 cases o with
 | dead=>exact ho.elim
 | row own tl es cs =>
  cases own with
  | false=>cases l<;>exact ho.elim
  | true =>
   cases l with
   | none=>exact ho.elim
   | some p =>
    obtain⟨b',o,t⟩:=p
    obtain⟨rfl,h1,h2⟩:=ho
    obtain⟨_,_,_,_,h5⟩:=h
    exact⟨(h5 rfl).1,(h5 rfl).2.1⟩
 | map es =>
  cases l with
  | none=>exact ho.elim
  | some p =>
   obtain⟨b',o,t⟩:=p
   obtain⟨h1,arr,clock,h2,h3⟩:=h
   have:b=b':=ho
   subst this
   exact⟨h1,by obtain⟨hb,_⟩:=Array.getElem?_eq_some_iff.1 h2;exact hb⟩
 | siter s pos =>
  cases l with
  | none=>exact ho.elim
  | some p =>
   obtain⟨b',o,t⟩:=p
   obtain⟨h1,h2,h3⟩:=h
   have:b=b':=ho
   subst this
   exact⟨h1,by obtain⟨hb,_⟩:=Array.getElem?_eq_some_iff.1 h3;exact hb⟩
 | unit e=>cases l<;>exact ho.elim
theorem Sim.same_heap {N:Th}{W0:World}{L:Lay}{H:Heap}{w w':World}(S:Sim N W0 L H w)(hh:w'.heap=w.heap)(ho:w'.os=w.os)(ht:w'.tape=w.tape)(hp:w'.output=w.output):Sim N W0 L H w' where
 below:=⟨ho.trans S.below.os,ht.trans S.below.tape,hp.trans S.below.output,by rw[hh];exact S.below.size,fun k hk=>by rw[hh];exact S.below.block k hk⟩
 base:=by rw[hh];exact S.base
 ghost:=fun b o hg=>by rw[hh];exact S.ghost b o hg
 void:=S.void
 fresh:=S.fresh
 obj:=fun id=>(S.obj id).world fun b _=>by rw[hh]
 apart:=S.apart
 calm:=fun id b o t hl hb=>by rw[hh];exact S.calm id b o t hl hb
theorem Sim.drew {N:Th}{W0:World}{L:Lay}{H:Heap}{w:World}(S:Sim N W0 L H w):Sim N W0 L H w.drew:=S.same_heap rfl rfl rfl rfl
theorem Sim.alloc {N:Th}{W0:World}{L:Lay}{H:Heap}{w:World}(S:Sim N W0 L H w)(o:Obj)(hcalm:calmObj o):Sim N W0 L H (w.alloc o) where
 below:=S.below.alloc S.base o
 base:=by have:=S.base;simp;omega
 ghost:=fun b o hg=>by
  have h:=S.ghost b o hg
  obtain⟨hb,_⟩:=Array.getElem?_eq_some_iff.1 h
  rw[Below.heap_alloc _ _ _ hb];exact h
 void:=S.void
 fresh:=S.fresh
 obj:=fun id=>(S.obj id).world fun b hb=>Below.heap_alloc w o b hb
 apart:=S.apart
 calm:=S.calm.alloc o
theorem Sim.kill {N:Th}{W0:World}{L:Lay}{H:Heap}{w:World}(S:Sim N W0 L H w)(id:Nat)(hid:id<H.n):Sim N W0 L (H.set id .dead) w where
 below:=S.below
 base:=S.base
 ghost:=S.ghost
 void:=S.void
 calm:=S.calm
 fresh:=S.fresh
 obj:=fun j=>by
  rw[Heap.get_set _ _ _ hid]
  split
  · trivial
  · exact S.obj j
 apart:=fun i j b k hij h1 h2=>by
  rw[Heap.get_set _ _ _ hid]at h1 h2
  split at h1
  · exact h1
  · split at h2
    · exact h2
    · exact S.apart i j b k hij h1 h2
theorem Sim.turn {N:Th}{W0:World}{L:Lay}{H:Heap}{w:World}(S:Sim N W0 L H w)(id:Nat)(hid:id<H.n)(o:AObj)(ho:ObjOK N L w o (L id))
  (hown:∀ b k,Owns o (L id) b k→Owns (H.get id) (L id) b k):Sim N W0 L (H.set id o) w where
 below:=S.below
 base:=S.base
 ghost:=S.ghost
 void:=S.void
 calm:=S.calm
 fresh:=S.fresh
 obj:=fun j=>by
  rw[Heap.get_set _ _ _ hid]
  split
  · rename_i e;subst e;exact ho
  · exact S.obj j
 apart:=fun i j b k hij h1 h2=>by
  rw[Heap.get_set _ _ _ hid]at h1 h2
  split at h1
  · rename_i e1;subst e1
    split at h2
    · rename_i e2;exact hij e2.symm
    · exact S.apart i j b k hij (hown b k h1) h2
  · split at h2
    · rename_i e2;subst e2;exact S.apart i j b k hij h1 (hown b k h2)
    · exact S.apart i j b k hij h1 h2
def upd (L:Lay)(i:Nat)(x:Nat × Nat × Nat):Lay:=fun j=>if j=i then some x else L j
theorem upd_le {L:Lay}{i:Nat}{x:Nat × Nat × Nat}(h:L i=none):L.le (upd L i x):=fun j y e=>by
 unfold upd
 by_cases c:j=i
 · subst c;rw[h]at e;cases e
 · rw[if_neg c];exact e
theorem upd_same (L:Lay)(i:Nat)(x:Nat × Nat × Nat):upd L i x i=some x:=by simp[upd]
structure Free (N:Th)(L:Lay)(H:Heap)(r:Nat):Prop where
 void:N.d r=false
 le:r≤H.n
 dead:H.get r = .dead
 lay:L r=none
theorem Sim.free {N:Th}{W0:World}{L:Lay}{H:Heap}{w:World}(S:Sim N W0 L H w):Free N L H H.n:=⟨by
 cases h:N.d H.n with
 | false=>rfl
 | true=>have:=(S.void _ h).1;omega,Nat.le_refl _,Heap.get_of_ge (Nat.le_refl _),S.fresh _ (Nat.le_refl _)⟩
structure LeAt (r:Nat)(L L':Lay):Prop where
 le:L.le L'
 other:∀ j,j≠r→L' j=L j
theorem LeAt.refl (r:Nat)(L:Lay):LeAt r L L:=⟨Lay.le_refl L,fun _ _=>rfl⟩
theorem upd_at {L:Lay}{i:Nat}{x:Nat × Nat × Nat}(h:L i=none):LeAt i L (upd L i x):=⟨upd_le h,fun j hj=>by unfold upd;rw[if_neg hj]⟩
theorem Sim.putAt {N:Th}{W0:World}{L:Lay}{H:Heap}{w:World}(S:Sim N W0 L H w){r:Nat}(F:Free N L H r)(o:AObj)(x:Nat × Nat × Nat)(ho:ObjOK N (upd L r x) w o (some x))
  (hown:∀ j b k,Owns o (some x) b k→Owns (H.get j) (L j) b k→False) (hcm:N.n≤x.1→∃ ob,w.heap[x.1]? = some ob∧calmObj ob):Sim N W0 (upd L r x) (H.pushAt r o) w where
 below:=S.below
 base:=S.base
 ghost:=S.ghost
 void:=fun id h=>by
  have hv:=S.void id h
  refine⟨Nat.lt_of_lt_of_le hv.1 (Heap.le_pushAt H r o),?_⟩
  unfold upd
  rw[if_neg (fun e=>by rw[e,F.void]at h;cases h)];exact hv.2
 calm:=fun id b o t hl hb=>by
  unfold upd at hl
  split at hl
  · simp only[Option.some.injEq]at hl;subst hl;exact hcm hb
  · exact S.calm id b o t hl hb
 fresh:=fun id h=>by
  obtain⟨h1,h2⟩:=Heap.n_pushAt o h F.le
  unfold upd;rw[if_neg h1];exact S.fresh id h2
 obj:=fun j=>by
  rw[Heap.get_pushAt F.le]
  by_cases c:j=r
  · rw[if_pos c];subst c;rw[upd_same];exact ho
  · rw[if_neg c]
    have:upd L r x j=L j:=by unfold upd;rw[if_neg c]
    rw[this]
    exact (S.obj j).mono (upd_le F.lay)
 apart:=fun i j b k hij h1 h2=>by
  rw[Heap.get_pushAt F.le]at h1 h2
  by_cases c:i=r
  · rw[if_pos c]at h1;subst c;rw[upd_same]at h1
    have c2:j≠i:=fun e=>hij e.symm
    rw[if_neg c2]at h2
    have:upd L i x j=L j:=by unfold upd;rw[if_neg c2]
    rw[this]at h2
    exact hown j b k h1 h2
  · rw[if_neg c]at h1
    have e1:upd L r x i=L i:=by unfold upd;rw[if_neg c]
    rw[e1]at h1
    by_cases c2:j=r
    · rw[if_pos c2]at h2;subst c2;rw[upd_same]at h2
      exact hown i b k h2 h1
    · rw[if_neg c2]at h2
      have:upd L r x j=L j:=by unfold upd;rw[if_neg c2]
      rw[this]at h2
      exact S.apart i j b k hij h1 h2
theorem Sim.put {N:Th}{W0:World}{L:Lay}{H:Heap}{w:World}(S:Sim N W0 L H w)(o:AObj)(x:Nat × Nat × Nat)(ho:ObjOK N (upd L H.n x) w o (some x))
  (hown:∀ j b k,Owns o (some x) b k→Owns (H.get j) (L j) b k→False) (hcm:N.n≤x.1→∃ ob,w.heap[x.1]? = some ob∧calmObj ob):Sim N W0 (upd L H.n x) (H.push o) w:=by
 have:=S.putAt S.free o x ho hown hcm
 rwa [Heap.pushAt_n]at this
theorem alloc_cell (w:World)(c:Array Value)(e:TypeId)(k:Nat):(w.alloc (.cells c e)).cell? ⟨w.heap.size,k,none⟩=c[k]? := World.cell?_alloc_new w c e k
theorem alloc_frozen (w:World)(c:Array Value)(e:TypeId)(k:Nat):(w.alloc (.cells c e)).frozen? ⟨w.heap.size,k,none⟩=false:=World.frozen?_alloc_new w c e k
theorem heap_new (w:World)(o:Obj):(w.alloc o).heap[w.heap.size]? = some o:=by
 show (w.heap.push o)[w.heap.size]? = _
 simp
theorem Sim.new_rowAt {N:Th}{W0:World}{L:Lay}{H:Heap}{w:World}(S:Sim N W0 L H w){r:Nat}(F:Free N L H r)(c:Array Value)(e:TypeId)(tl es t:Nat)(cs:List Value)
  (hc:∀ k (h:k<cs.length),∃ v',c[k]? = some v'∧VR L cs[k] v') (h1:One cs) (hs:cs.length+spareOf tl t es≤c.size) (ht:tl=0→t=0) :
  Sim N W0 (upd L r (w.heap.size,0,t)) (H.pushAt r (.row true tl es cs)) (w.alloc (.cells c e)):=by
 have S':=S.alloc (.cells c e) (.inl rfl)
 have hl:=upd_le (x:=(w.heap.size,0,t)) F.lay
 refine S'.putAt F _ _ ⟨fun k hk => ?_,h1,ht,fun h=>(by cases h),fun _=>⟨S.new,by show w.heap.size<(w.heap.push _).size;simp,fun j hj => ?_⟩⟩ ?_ (fun _=>⟨_,heap_new w _,.inl rfl⟩)
 · obtain⟨v',e1,r⟩:=hc k hk
   exact⟨v',by rw[Nat.zero_add,alloc_cell];exact e1,r.mono hl⟩
 · rw[Nat.zero_add,alloc_cell,alloc_frozen]
   refine⟨?_,rfl⟩
   rw[Array.getElem?_eq_getElem (by omega)];rfl
 · intro j b k h2 h3
   have:=(Owns.lt (S.obj j) h3).2
   have:b=w.heap.size:=h2.1
   omega
theorem Sim.new_row {N:Th}{W0:World}{L:Lay}{H:Heap}{w:World}(S:Sim N W0 L H w)(c:Array Value)(e:TypeId)(tl es t:Nat)(cs:List Value)
  (hc:∀ k (h:k<cs.length),∃ v',c[k]? = some v'∧VR L cs[k] v') (h1:One cs) (hs:cs.length+spareOf tl t es≤c.size) (ht:tl=0→t=0) :
  Sim N W0 (upd L H.n (w.heap.size,0,t)) (H.push (.row true tl es cs)) (w.alloc (.cells c e)):=by
 have:=S.new_rowAt S.free c e tl es t cs hc h1 hs ht
 rwa [Heap.pushAt_n]at this
theorem setCells_heap_size (b:Nat):∀ (vs:List Value)(o:Nat)(w:World),(w.setCells b o vs).heap.size=w.heap.size
 | [],_,_=>rfl
 | v :: vs, o, w => by
  show ((w.setCell ⟨b,o,none⟩ v).setCells b (o+1) vs).heap.size=_
  rw[setCells_heap_size];exact World.size_setCell _ _ _
theorem setCells_heap_other (b:Nat):∀ (vs:List Value)(o:Nat)(w:World)(b':Nat),b'≠b→(w.setCells b o vs).heap[b']? = w.heap[b']?
 | [],_,_,_,_=>rfl
 | v :: vs, o, w, b', h => by
  show ((w.setCell ⟨b,o,none⟩ v).setCells b (o+1) vs).heap[b']? = _
  rw[setCells_heap_other b vs (o+1) _ b' h];exact Below.heap_setCell w ⟨b,o,none⟩ v b' h
theorem setCells_below {B:Nat}{w0:World}(b:Nat)(hb:B≤b):∀ (vs:List Value)(o:Nat)(w:World),Below B w0 w→Below B w0 (w.setCells b o vs)
 | [],_,_,h=>h
 | v :: vs,o,w,h=>setCells_below b hb vs (o+1) _ (h.setCell (p:=⟨b,o,none⟩) hb v)
theorem length_writeAt {cs vs:List Value}{off:Nat}(h:off+vs.length≤cs.length):(writeAt cs off vs).length=cs.length:=by
 simp[writeAt];omega
theorem get_writeAt {cs vs:List Value}{off:Nat}(h:off+vs.length≤cs.length)(k:Nat)(hk:k<(writeAt cs off vs).length) :
  (writeAt cs off vs)[k]=if hc:off≤k∧k<off+vs.length then vs[k - off]'(by omega)else cs[k]'(by rw[length_writeAt h]at hk;exact hk):=by
 have hk':k<cs.length:=by rw[length_writeAt h]at hk;exact hk
 have ht:(cs.take off).length=off:=by simp;omega
 have hk2:k<(cs.take off++(vs++cs.drop (off+vs.length))).length:=hk
 show (cs.take off++(vs++cs.drop (off+vs.length)))[k]'hk2=_
 by_cases c1:k<off
 · rw[dif_neg (by omega),List.getElem_append_left (by omega),List.getElem_take]
 · rw[List.getElem_append_right (by omega)]
   simp only[ht]
   by_cases c2:k<off+vs.length
   · rw[dif_pos (by omega),List.getElem_append_left (by omega)]
   · rw[dif_neg (by omega),List.getElem_append_right (by omega),List.getElem_drop]
     congr 1;omega
theorem One.writeAt {cs vs:List Value}{off:Nat}(h:One cs)(k:One vs)(hb:off+vs.length≤cs.length):One (writeAt cs off vs):=by
 intro i hi
 rw[get_writeAt hb]
 split
 · exact k _ _
 · exact h _ _
theorem setCells_shape (B:Nat):∀ (vs:List Value)(off:Nat)(w:World)(b:Nat)(c:Array Value)(e:TypeId)(fr:Nat × Nat),w.heap[b]? = some (.cells c e fr)→∃ c',(w.setCells B off vs).heap[b]? = some (.cells c' e fr)
 | [],_,_,_,c,_,_,h=>⟨c,h⟩
 | v :: vs, off, w, b, c, e, fr, h => by
  show ∃ c',((w.setCell ⟨B,off,none⟩ v).setCells B (off+1) vs).heap[b]? = some (.cells c' e fr)
  have hh:∃ c2,(w.setCell ⟨B,off,none⟩ v).heap[b]? = some (.cells c2 e fr):=by
   by_cases hb:b=B
   · subst hb
     have:(w.setCell ⟨b,off,none⟩ v).heap=w.heap.modify b (fun
      | .cells c elem frozen => .cells (if (none:Option Nat).isSome then c else c.setIfInBounds off v) elem frozen
      | o=>o):=rfl
     rw[this,Array.getElem?_modify,if_pos rfl,h]
     exact⟨_,rfl⟩
   · exact⟨c,by rw[Below.heap_setCell w ⟨B,off,none⟩ v b hb];exact h⟩
  obtain⟨c2,h2⟩:=hh
  exact setCells_shape B vs (off+1) _ b c2 e fr h2
theorem ObjOK.write {N:Th}{L:Lay}{w:World}{o:AObj}{l:Option (Nat × Nat × Nat)}(h:ObjOK N L w o l)(B off:Nat)(vs:List Value)(hB:N.own B)
  (hcell:∃ v,w.cell? ⟨B,off,none⟩=some v∨vs=[]) (hap:∀ k,off≤k→k<off+vs.length→¬Owns o l B k):ObjOK N L (w.setCells B off vs) o l:=by
 have hc:∀ b k,(b≠B∨k<off∨off+vs.length≤k)→(w.setCells B off vs).cell? ⟨b,k,none⟩=w.cell? ⟨b,k,none⟩:=fun b k hk =>
  World.cell?_setCells_out B vs off w ⟨b,k,none⟩ (fun e _=>by rcases hk with hk | hk;exact absurd e hk;exact hk)
 cases o with
 | dead=>trivial
 | row own tl es cs =>
  cases l with
  | none=>exact h.elim
  | some p =>
   obtain⟨b,o,t⟩:=p
   obtain⟨h1,h2,h3,h4,h5⟩:=h
   have key:∀ k,k<cs.length+spareOf tl t es→own=true→(b≠B∨o+k<off∨off+vs.length≤o+k):=by
    intro k hk ho
    by_cases e:b=B
    · right
      subst e ho
      by_cases c:o+k<off∨off+vs.length≤o+k
      · exact c
      · exfalso;exact hap (o+k) (by omega) (by omega) ⟨rfl,by omega,by omega⟩
    · exact .inl e
   refine⟨fun k hk => ?_,h2,h3,h4,fun ho=>⟨(h5 ho).1,by rw[setCells_heap_size];exact (h5 ho).2.1,fun j hj => ?_⟩⟩
   · obtain⟨v',e,r⟩:=h1 k hk
     refine⟨v',?_,r⟩
     rw[hc];exact e
     cases own with
     | true=>exact key k (by omega) rfl
     | false=>exact .inl (by have:=h4 rfl;have:=hB.1;omega)
   · rw[hc _ _ (key j hj ho),World.frozen?_setCells]
     exact (h5 ho).2.2 j hj
 | map es =>
  cases l with
  | none=>exact h.elim
  | some p =>
   obtain⟨b,o,t⟩:=p
   obtain⟨h1,arr,clock,h2,h3⟩:=h
   refine⟨h1,arr,clock,?_,h3⟩
   cases vs with
   | nil=>exact h2
   | cons v vs =>
    rw[setCells_heap_other]
    · exact h2
    · intro e;exact hap off (Nat.le_refl _) (by simp) e.symm
 | siter s pos =>
  cases l with
  | none=>exact h.elim
  | some p =>
   obtain⟨b,o,t⟩:=p
   obtain⟨h1,h2,h3⟩:=h
   refine⟨h1,h2,?_⟩
   cases vs with
   | nil=>exact h3
   | cons v vs =>
    rw[setCells_heap_other]
    · exact h3
    · intro e;exact hap off (Nat.le_refl _) (by simp) e.symm
 | unit e =>
  cases l with
  | none=>exact h.elim
  | some p =>
   obtain⟨b,o,t⟩:=p
   obtain⟨h1,h2,c,fr,h3⟩:=h
   obtain⟨c',h4⟩:=setCells_shape B vs off w b c e fr h3
   exact⟨h1,h2,c',fr,h4⟩
theorem Sim.write_free {N:Th}{W0:World}{L:Lay}{H:Heap}{w:World}(S:Sim N W0 L H w)(B off:Nat)(vs:List Value)(hB:N.own B)
  (hcell:∃ v,w.cell? ⟨B,off,none⟩=some v∨vs=[]) (hap:∀ j k,off≤k→k<off+vs.length→¬Owns (H.get j) (L j) B k):Sim N W0 L H (w.setCells B off vs) where
 below:=setCells_below B hB.1 vs off w S.below
 base:=by rw[setCells_heap_size];exact S.base
 ghost:=fun b o hg=>by
  rw[setCells_heap_other B vs off w b (fun e=>by rw[e,hB.2]at hg;cases hg)];exact S.ghost b o hg
 void:=S.void
 calm:=S.calm.setCells B vs off w
 fresh:=S.fresh
 obj:=fun j=>(S.obj j).write B off vs hB hcell (hap j)
 apart:=S.apart
theorem Sim.write {N:Th}{W0:World}{L:Lay}{H:Heap}{w:World}(S:Sim N W0 L H w){id tl es:Nat}{cs:List Value}{b o t:Nat}(hg:H.get id = .row true tl es cs)(hl:L id=some (b,o,t))
  (off:Nat) {vs vs':List Value} (hv:LR L vs vs') (h1:One vs) (hb:off+vs.length≤cs.length) :
  Sim N W0 L (H.set id (.row true tl es (writeAt cs off vs))) (w.setCells b (o+off) vs'):=by
 have hid:id<H.n:=Heap.lt_of_get hg (by simp)
 have hob:=S.obj id
 rw[hg,hl]at hob
 obtain⟨c1,c2,c3,c4,c5⟩:=hob
 have hlen:=hv.1
 have hN:=(c5 rfl).1
 have hthere:=(c5 rfl).2.2
 have hcs:∀ k,k<vs'.length→(w.cell? ⟨b,o+off+k,none⟩).isSome=true:=fun k hk=>by
  have:=(hthere (off+k) (by omega)).1
  rwa [show o+(off+k)=o+off+k by omega]at this
 have hcell:∃ v,w.cell? ⟨b,o+off,none⟩=some v∨vs'=[]:=by
  cases hvs:vs' with
  | nil=>exact⟨undef,.inr rfl⟩
  | cons v' vs'' =>
   have:=hcs 0 (by rw[hvs];simp)
   obtain⟨u,hu⟩:=Option.isSome_iff_exists.1 this
   exact⟨u,.inl hu⟩
 constructor
 · exact setCells_below b hN.1 vs' (o+off) w S.below
 · rw[setCells_heap_size];exact S.base
 · intro b2 o2 hg2
   rw[setCells_heap_other b vs' (o+off) w b2 (fun e=>by rw[e,hN.2]at hg2;cases hg2)];exact S.ghost b2 o2 hg2
 · exact S.void
 · exact S.fresh
 · intro j
   rw[Heap.get_set _ _ _ hid]
   by_cases c:j=id
   · rw[if_pos c];subst c;rw[hl]
     refine⟨fun k hk => ?_,c2.writeAt h1 hb,c3,c4,fun _=>⟨hN,by rw[setCells_heap_size];exact (c5 rfl).2.1,?_⟩⟩
     · have hk':k<cs.length:=by rw[length_writeAt hb]at hk;exact hk
       rw[get_writeAt hb k hk]
       by_cases cc:off≤k∧k<off+vs.length
       · rw[dif_pos cc]
         have:=World.cell?_setCells_in b vs' (o+off) w hcs (k - off) (by omega)
         rw[show o+off+(k - off)=o+k by omega]at this
         exact⟨_,this,hv.2 (k - off) (by omega) (by omega)⟩
       · rw[dif_neg cc]
         obtain⟨v',e,r⟩:=c1 k hk'
         refine⟨v',?_,r⟩
         rw[World.cell?_setCells_out b vs' (o+off) w ⟨b,o+k,none⟩ (fun _ _=>by show o+k<o+off∨o+off+vs'.length≤o+k;omega)]
         exact e
     · rw[length_writeAt hb]
       intro k hk
       obtain⟨e1,e2⟩:=hthere k hk
       refine⟨?_,by rw[World.frozen?_setCells];exact e2⟩
       by_cases cc:off≤k∧k<off+vs'.length
       · have:=World.cell?_setCells_in b vs' (o+off) w hcs (k - off) (by omega)
         rw[show o+off+(k - off)=o+k by omega]at this
         rw[this];rfl
       · rw[World.cell?_setCells_out b vs' (o+off) w ⟨b,o+k,none⟩ (fun _ _=>by show o+k<o+off∨o+off+vs'.length≤o+k;omega)]
         exact e1
   · rw[if_neg c]
     refine (S.obj j).write b (o+off) vs' hN hcell fun k k1 k2 k3 => ?_
     refine S.apart j id b k c k3 ?_
     rw[hg,hl]
     exact⟨rfl,by omega,by omega⟩
 · intro i j b' k hij h2 h3
   have ho:∀ i',Owns ((H.set id (.row true tl es (writeAt cs off vs))).get i') (L i') b' k→Owns (H.get i') (L i') b' k:=by
    intro i' hh
    rw[Heap.get_set _ _ _ hid]at hh
    split at hh
    · rename_i e;subst e;rw[hg]
      rw[hl]at hh ⊢
      obtain⟨e1,e2,e3⟩:=hh
      rw[length_writeAt hb]at e3
      exact⟨e1,e2,e3⟩
    · exact hh
   exact S.apart i j b' k hij (ho i h2) (ho j h3)
 · exact S.calm.setCells b vs' (o+off) w
theorem Sim.row {N:Th}{W0:World}{L:Lay}{H:Heap}{w:World}(S:Sim N W0 L H w){id tl es:Nat}{own:Bool}{cs:List Value}(hg:H.get id = .row own tl es cs) :
  ∃ b o t cs',L id=some (b,o,t)∧w.rangeAt b o cs'∧LR L cs cs'∧One cs∧One cs'∧(tl=0→t=0)∧(own=true→N.own b∧b<w.heap.size∧w.there b o (cs.length+spareOf tl t es)):=by
 have hob:=S.obj id
 rw[hg]at hob
 cases hl:L id with
 | none=>rw[hl]at hob;exact hob.elim
 | some p =>
  obtain⟨b,o,t⟩:=p
  rw[hl]at hob
  obtain⟨c1,c2,c3,c4,c5⟩:=hob
  have hex:∃ cs':List Value,cs'.length=cs.length∧∀ k (h:k<cs'.length) (h':k<cs.length),w.cell? ⟨b,o+k,none⟩=some cs'[k]∧VR L cs[k] cs'[k]:=by
   refine⟨(List.range cs.length).map fun k=>(w.cell? ⟨b,o+k,none⟩).getD undef,by simp,fun k h h' => ?_⟩
   obtain⟨v',e,r⟩:=c1 k h'
   simp[e,r]
  obtain⟨cs',e1,e2⟩:=hex
  refine⟨b,o,t,cs',rfl,fun j v hv => ?_,⟨e1.symm,fun k h h'=>(e2 k h' h).2⟩,c2,?_,c3,c5⟩
  · obtain⟨h1,h2⟩:=List.getElem?_eq_some_iff.1 hv
    rw[← h2];exact (e2 j h1 (e1 ▸ h1)).1
  · exact LR.one ⟨e1.symm,fun k h h'=>(e2 k h' h).2⟩ c2
variable {P:Program} {N:Th} {W0:World} {L:Lay} {H:Heap} {w:World}
theorem run_sizeOf {t:TypeId}{n:Nat}(h:sizeT P t=some n)(w:World):(sizeOf t).run P w = .ok n w:=by
 unfold sizeT at h
 cases hq:P.info? t with
 | none=>simp[hq]at h
 | some i=>simp[hq]at h;simp[sizeOf,typeInfo,hq,h]
theorem run_isAgg {t:TypeId}{b:Bool}(h:aggT P t=some b)(w:World):(isAgg t).run P w = .ok b w:=by
 unfold aggT at h
 cases hq:P.underlying t with
 | none=>simp[hq]at h
 | some d=>unfold isAgg;rw[Sem.run_bind,run_underlying hq w];cases d<;>simp_all
theorem run_zero {t:TypeId}{z:Value}(h:zeroT P t=some z):ground z=true∧isTuple z=false∧∀ w,(zeroValue t).run P w = .ok z w:=by
 unfold zeroT at h
 cases hz:ifGround ((P.info? t).bind (·.zero))with
 | none=>simp[hz]at h
 | some u =>
  simp only[hz]at h
  cases ht:isTuple u with
  | true=>simp[ht]at h
  | false =>
   simp only[ht,Option.some.injEq]at h;subst h
   obtain⟨h1,h2⟩:=ifGround_some hz
   refine⟨h2,ht,fun w => ?_⟩
   cases hq:P.info? t with
   | none=>simp[hq]at h1
   | some i=>simp[hq]at h1;simp[zeroValue,typeInfo,hq,h1]
theorem run_info {t:TypeId}{b:Nat}(h:bytesT P t=some b):∃ i,P.info? t=some i∧i.bytes=b:=by
 unfold bytesT at h
 cases hq:P.info? t with
 | none=>simp[hq]at h
 | some i=>simp[hq]at h;exact⟨i,rfl,h⟩
theorem elemT_und {t e:TypeId}(h:elemT P t=some e):P.underlying t=some (.slice e):=by
 unfold elemT at h
 cases hq:P.underlying t with
 | none=>simp[hq]at h
 | some d=>cases d<;>simp[hq]at h;rw[h]
theorem part_run {t:TypeId}{cs cs':List Value}{off:Nat}{v:Value}(h:partA P t cs off=some v)(hl:LR L cs cs')(h1:One cs)(w:World) :
  ∃ v',(part t ⟨cs'⟩ off).run P w = .ok v' w∧VR L v v':=by
 unfold partA at h
 cases ha:aggT P t with
 | none=>simp[ha]at h
 | some b =>
  cases b with
  | true =>
   cases hn:sizeT P t with
   | none=>simp[ha,hn]at h
   | some n =>
    simp only[ha,hn]at h
    split at h
    · simp only[Option.some.injEq]at h;subst h
      refine⟨.agg ⟨(cs'.drop off).take n⟩,?_,?_⟩
      · have e:(⟨cs'⟩:Array Value).extract off (off+n)=⟨(cs'.drop off).take n⟩:=by
         rw[List.extract_toArray,List.extract_eq_take_drop];simp
        simp[part,run_isAgg ha,run_sizeOf hn,e]
      · exact .agg _ _ ((hl.drop off).take n).1 ((hl.drop off).take n).2 ((h1.drop off).take n)
    · cases h
  | false =>
   simp only[ha]at h
   obtain⟨v',e,r⟩:=hl.get? h
   exact⟨v',by simp[part,run_isAgg ha,e],r⟩
theorem rangeAt_sub {b o:Nat}{cs:List Value}(h:w.rangeAt b o cs)(off n:Nat):w.rangeAt b (o+off) ((cs.drop off).take n):=fun j v hv=>by
 have hj:j<n:=by
  have:=(List.getElem?_eq_some_iff.1 hv).1
  simp at this;omega
 rw[List.getElem?_take_of_lt hj,List.getElem?_drop]at hv
 have:=h (off+j) v hv
 rwa [show o+(off+j)=o+off+j by omega]at this
theorem aggT_isRow {t:TypeId}(h:aggT P t=some true):∃ d,P.underlying t=some d∧d.isRow=true:=by
 unfold aggT at h
 cases hq:P.underlying t with
 | none=>simp[hq]at h
 | some d=>cases d<;>simp[hq]at h<;>exact⟨_,rfl,rfl⟩
theorem load_run {t:TypeId}{a a' v:Value}(S:Sim N W0 L H w)(h:exLoad P t a H=some v)(ha:VR L a a') :
  ∃ v',(Instr.loadAt t a').run P w = .ok v' w∧VR L v v':=by
 unfold exLoad at h
 split at h
 · rename_i id off
   split at h
   · rename_i own tl es cs hg
     obtain⟨b,o,t',cs',hl,hr,hlr,h1,h1',_,_⟩:=S.row hg
     cases ha with
     | ptr _ _ b2 o2 t2 hl2 =>
      rw[hl]at hl2
      simp only[Option.some.injEq,Prod.mk.injEq]at hl2
      obtain⟨rfl,rfl,rfl⟩:=hl2
      unfold partA at h
      cases hagg:aggT P t with
      | none=>simp[hagg]at h
      | some bb =>
       cases bb with
       | true =>
        cases hn:sizeT P t with
        | none=>simp[hagg,hn]at h
        | some n =>
         simp only[hagg,hn]at h
         split at h
         · rename_i hle
           simp only[Option.some.injEq]at h;subst h
           obtain⟨d,hu,hd⟩:=aggT_isRow hagg
           have hlen:((cs'.drop off).take n).length=n:=by have:=hlr.1;simp;omega
           have:=run_loadAt_mid (P:=P) w b (o+off) t ((cs'.drop off).take n) d (rangeAt_sub hr off n) hu hd (by rw[hlen];exact hn)
           exact⟨_,this,.agg _ _ ((hlr.drop off).take n).1 ((hlr.drop off).take n).2 ((h1.drop off).take n)⟩
         · cases h
       | false =>
        simp only[hagg]at h
        obtain⟨v',e,r⟩:=hlr.get? h
        have hc:=hr off v' e
        refine⟨v',?_,r⟩
        simp[Instr.loadAt,Instr.sureAddr,loadVar,run_isAgg hagg,hc]
   · rename_i e hg
     have hob:=S.obj id
     rw[hg]at hob
     cases ha with
     | ptr _ _ b o t' hl =>
      unfold partA at h
      cases hagg:aggT P t with
      | none=>simp[hagg]at h
      | some bb =>
       cases bb with
       | true =>
        cases hn:sizeT P t with
        | none=>simp[hagg,hn]at h
        | some n =>
         simp only[hagg,hn,List.length_nil]at h
         split at h
         · rename_i hle
           simp only[Option.some.injEq]at h;subst h
           obtain⟨d,hu,hd⟩:=aggT_isRow hagg
           obtain rfl:n=0:=by omega
           have:=run_loadAt_mid (P:=P) w b (o+off) t [] d (fun j v hv=>by simp at hv) hu hd hn
           exact⟨_,this,.agg _ _ rfl (fun i h=>by simp at h) (fun i h=>by simp at h)⟩
         · cases h
       | false=>simp[hagg]at h
   · cases h
 · cases h
end Go.Vm
namespace Go.Vm
open Go.RowKit
variable {P:Program} {N:Th} {W0:World} {L:Lay} {H:Heap} {w:World}
theorem storeVar_cells {t:TypeId}{n:Nat}(hn:sizeT P t=some n)(b o:Nat)(v:Value)(hlen:v.cells.toList.length=n)(ht:w.there b o n)(h1:One v.cells.toList) :
  (storeVar t ⟨b,o,none⟩ v).run P w = .ok () (w.setCells b o v.cells.toList):=by
 have:=run_storeCells_cells (P:=P) b o v.cells.toList 0 w (fun j hj=>by simpa using (ht j (by omega)).1) (fun j hj=>by simpa using (ht j (by omega)).2)
  (fun u hu=>by obtain⟨i,hi,rfl⟩:=List.getElem_of_mem hu;exact h1 i hi)
 simp only[Nat.add_zero]at this
 have hs:v.cells.size=n:=by simpa using hlen
 simp[storeVar,run_sizeOf hn,hs,this]
theorem store_run {t:TypeId}{a a' v v':Value}{H':Heap}(S:Sim N W0 L H w)(h:exStore P t a v H=some H')(ha:VR L a a')(hv:VR L v v') :
  ∃ w',(Instr.storeAt t a' v').run P w = .ok () w'∧Sim N W0 L H' w':=by
 unfold exStore at h
 split at h
 · rename_i id off
   split at h
   · rename_i tl es cs hg
     obtain⟨b,o,t',cs',hl,hr,hlr,h1,h1',_,hown⟩:=S.row hg
     cases ha with
     | ptr _ _ b2 o2 t2 hl2 =>
      rw[hl]at hl2
      simp only[Option.some.injEq,Prod.mk.injEq]at hl2
      obtain⟨rfl,rfl,rfl⟩:=hl2
      cases hn:sizeT P t with
      | none=>simp[hn]at h
      | some n =>
       simp only[hn]at h
       split at h
       · rename_i hb
         simp only[Bool.and_eq_true,Bool.not_eq_true']at hb
         obtain⟨⟨hb1,hb2⟩,hb3⟩:=hb
         have hb1:v.cells.toList.length=n:=Nat.eq_of_beq_eq_true hb1
         have hb2:off+n≤cs.length:=Nat.le_of_ble_eq_true hb2
         simp only[Option.some.injEq]at h;subst h
         obtain⟨hc,hc1⟩:=hv.cells hb3
         have hlen':v'.cells.toList.length=n:=by rw[← hc.1];exact hb1
         refine⟨_,?_,S.write hg hl off hc hc1 (by omega)⟩
         have ht:w.there b (o+off) n:=fun j hj=>by
          have:=(hown rfl).2.2 (off+j) (by omega)
          rwa [show o+(off+j)=o+off+j by omega]at this
         simp only[Instr.storeAt,Instr.sureAddr,Sem.run_bind,Sem.run_pure,Result.andThen_ok]
         exact storeVar_cells hn b (o+off) v' hlen' ht (hc.one hc1)
       · cases h
   · cases h
 · cases h
theorem cells_getElem? {c:Array Value}(k:Nat):c[k]? = c.toList[k]? := by simp
theorem newVar_run {z z':Value}(S:Sim N W0 L H w){r:Nat}(F:Free N L H r)(t:TypeId)(hz:VR L z z')(hzt:isTuple z=false) :
  ∃ L' w',(newVar t z').run P w = .ok ⟨w.heap.size,0,none⟩ w'∧LeAt r L L'∧Sim N W0 L' (H.pushAt r (varObj P t z.cells.toList)) w'∧L' r=some (w.heap.size,0,0):=by
 obtain⟨hc,h1⟩:=hz.cells hzt
 refine⟨upd L r (w.heap.size,0,0),w.alloc (.cells z'.cells t),?_,upd_at F.lay,?_,upd_same _ _ _⟩
 · simp[newVar,newRow]
 · unfold varObj
   split
   · have S':=S.alloc (.cells z'.cells t) (.inl rfl)
     refine S'.putAt F _ _ ⟨S.new,rfl,z'.cells,(0,0),?_⟩ (fun j b k h=>h.elim) (fun _=>⟨_,heap_new w _,.inl rfl⟩)
     show (w.heap.push _)[w.heap.size]? = _
     simp
   · refine S.new_rowAt F z'.cells t 0 1 0 z.cells.toList (fun k hk => ?_) h1 (by have:=hc.1;simp[spareOf]at *;omega) (fun _=>rfl)
     have:=hc.1
     refine⟨z'.cells.toList[k]'(by omega),by rw[cells_getElem?];exact List.getElem?_eq_getElem _,hc.2 k hk (by omega)⟩
theorem allocAt_run {t:TypeId}{v:Value}{H':Heap}(S:Sim N W0 L H w){r:Nat}(F:Free N L H r)(h:exAllocAt P t r H=some (v,H')) :
  ∃ L' w' v',(Instr.alloc t true (.tuple #[])).run P w = .ok v' w'∧LeAt r L L'∧Sim N W0 L' H' w'∧VR L' v v':=by
 unfold exAllocAt at h
 cases hz:zeroT P t with
 | none=>simp[hz]at h
 | some z =>
  simp only[hz,Option.map_some,newVarA,Option.some.injEq,Prod.mk.injEq]at h
  obtain⟨rfl,rfl⟩:=h
  obtain⟨hg,ht,hr⟩:=run_zero hz
  obtain⟨L',w',e1,e2,e3,e4⟩:=newVar_run (P:=P) S F t (ground_VR L z hg) ht
  refine⟨L',w',.pointer (some ⟨w.heap.size,0,none⟩),?_,e2,e3,?_⟩
  · simp[Instr.alloc,hr,e1]
  · have:=VR.ptr (L:=L') r 0 _ _ _ e4;simpa using this
theorem alloc_run {t:TypeId}{v:Value}{H':Heap}(S:Sim N W0 L H w)(h:exAlloc P t H=some (v,H')) :
  ∃ L' w' v',(Instr.alloc t true (.tuple #[])).run P w = .ok v' w'∧L.le L'∧Sim N W0 L' H' w'∧VR L' v v' :=
 let ⟨L',w',v',h1,h2,h3⟩:=allocAt_run S S.free h;⟨L',w',v',h1,h2.le,h3⟩
theorem boxAt_run {t:TypeId}{a a' v:Value}{H':Heap}(S:Sim N W0 L H w){r:Nat}(F:Free N L H r)(h:exBoxAt P t a r H=some (v,H'))(ha:VR L a a') :
  ∃ L' w' v',(Instr.box t a').run P w = .ok v' w'∧LeAt r L L'∧Sim N W0 L' H' w'∧VR L' v v':=by
 unfold exBoxAt at h
 split at h
 · cases h
 · rename_i ht
   simp only[newVarA,Option.some.injEq,Prod.mk.injEq]at h
   obtain⟨rfl,rfl⟩:=h
   obtain⟨L',w',e1,e2,e3,e4⟩:=newVar_run (P:=P) S F t ha ht
   refine⟨L',w',.pointer (some ⟨w.heap.size,0,none⟩),?_,e2,e3,?_⟩
   · simp[Instr.box,e1]
   · have:=VR.ptr (L:=L') r 0 _ _ _ e4;simpa using this
theorem box_run {t:TypeId}{a a' v:Value}{H':Heap}(S:Sim N W0 L H w)(h:exBox P t a H=some (v,H'))(ha:VR L a a') :
  ∃ L' w' v',(Instr.box t a').run P w = .ok v' w'∧L.le L'∧Sim N W0 L' H' w'∧VR L' v v' :=
 let ⟨L',w',v',h1,h2,h3⟩:=boxAt_run S S.free h ha;⟨L',w',v',h1,h2.le,h3⟩
end Go.Vm
namespace Go.Vm
open Go.RowKit
variable {P:Program} {N:Th} {W0:World} {L:Lay} {H:Heap} {w:World}
theorem writeAt_nil (cs:List Value)(off:Nat):writeAt cs off []=cs:=by simp[writeAt]
theorem writeAt_cons {cs:List Value}{off:Nat}(v:Value)(vs:List Value)(h:off<cs.length):writeAt (cs.set off v) (off+1) vs=writeAt cs off (v :: vs):=by
 unfold writeAt
 rw[List.take_set,List.drop_set_of_lt (by omega)]
 have:(cs.take (off+1)).set off v=cs.take off++[v]:=by
  rw[List.take_add_one,List.set_append_right _ _ (by simp;omega)]
  have:(cs.take off).length=off:=by simp;omega
  simp[this,List.getElem?_eq_getElem h]
 rw[this]
 simp only[List.append_assoc,List.singleton_append,List.length_cons,List.cons_append,List.nil_append]
 rw[show off+1+vs.length=off+(vs.length+1) by omega]
theorem fold_writeAt (off:Nat):∀ (vs:List Value)(k:Nat)(arr:List Value),off+k+vs.length≤arr.length →
  (vs.zipIdx k).foldl (fun (cs:Array Value) (p:Value × Nat)=>cs.setIfInBounds (off+p.2) p.1) ⟨arr⟩=⟨writeAt arr (off+k) vs⟩
 | [],k,arr,_=>by simp[writeAt_nil]
 | v :: vs, k, arr, h => by
  simp only[List.length_cons]at h
  simp only[List.zipIdx_cons,List.foldl_cons,List.setIfInBounds_toArray]
  have:=fold_writeAt off vs (k+1) (arr.set (off+k) v) (by simp;omega)
  rw[this]
  congr 1
  exact writeAt_cons v vs (by omega)
def PR (L:Lay)(ps ps':List (Nat × Value)):Prop:=ps.length=ps'.length∧∀ i (h:i<ps.length) (h':i<ps'.length),ps'[i].1=ps[i].1∧VR L ps[i].2 ps'[i].2
theorem PR.cases_cons {p:Nat × Value}{x x':List (Nat × Value)}(h:PR L (p :: x) x'):∃ v' y',x'=(p.1,v') :: y'∧VR L p.2 v'∧PR L x y':=by
 cases x' with
 | nil=>simp[PR]at h
 | cons q y' =>
  obtain⟨h1,h2⟩:=h
  have h0:=h2 0 (by simp) (by simp)
  obtain⟨i,v'⟩:=q
  simp only[List.getElem_cons_zero]at h0
  obtain⟨rfl,h0⟩:=h0
  exact⟨v',y',rfl,h0,by simpa using h1,fun i h3 h4=>by have:=h2 (i+1) (by simpa using h3) (by simpa using h4);simpa using this⟩
theorem PR.nil:PR L [] []:=⟨rfl,fun i h=>by simp at h⟩
theorem PR.cons {i:Nat}{v v':Value}{x x':List (Nat × Value)}(hv:VR L v v')(h:PR L x x'):PR L ((i,v) :: x) ((i,v') :: x'):=by
 refine⟨by simp[h.1],fun j h1 h2 => ?_⟩
 cases j with
 | zero=>exact⟨rfl,hv⟩
 | succ j=>exact h.2 j (by simpa using h1) (by simpa using h2)
theorem LR.writeAt {cs cs' vs vs':List Value}(h:LR L cs cs')(k:LR L vs vs')(off:Nat):LR L (writeAt cs off vs) (writeAt cs' off vs'):=by
 unfold Go.Vm.writeAt
 refine (h.take off).append (k.append ?_)
 rw[k.1];exact h.drop _
theorem fill_run {place:Nat→Option (Nat × Nat)}:∀ (parts:List (Nat × Value)){parts':List (Nat × Value)}{cells cells' cs:List Value},
  fillL place cells parts=some cs→LR L cells cells'→One cells→PR L parts parts'→∃ cs',Instr.fill place ⟨cells'⟩ parts'=some ⟨cs'⟩∧LR L cs cs'∧One cs∧cs.length=cells.length
 | [], parts', cells, cells', cs, h, hc, h1, hp => by
  simp only[fillL,Option.some.injEq]at h;subst h
  have:parts'=[]:=by
   cases parts' with
   | nil=>rfl
   | cons _ _=>simp[PR]at hp
  subst this
  exact⟨cells',rfl,hc,h1,rfl⟩
 | (i, v) :: parts, parts', cells, cells', cs, h, hc, h1, hp => by
  obtain⟨v',y',rfl,hv,hp'⟩:=hp.cases_cons
  simp only[fillL]at h
  cases hpl:place i with
  | none=>simp[hpl]at h
  | some q =>
   obtain⟨off,size⟩:=q
   simp only[hpl]at h
   split at h
   · rename_i hb
     simp only[Bool.and_eq_true,Bool.not_eq_true']at hb
     obtain⟨⟨hb1,hb2⟩,hb3⟩:=hb
     have hb1:v.cells.toList.length=size:=Nat.eq_of_beq_eq_true hb1
     have hb2:off+size≤cells.length:=Nat.le_of_ble_eq_true hb2
     obtain⟨hvc,hv1⟩:=hv.cells hb3
     have hvl:=hvc.1
     have hcl:=hc.1
     obtain⟨cs',e1,e2,e3,e4⟩:=fill_run parts h (hc.writeAt hvc off) (h1.writeAt hv1 (by omega)) hp'
     refine⟨cs',?_,e2,e3,by rw[e4,length_writeAt (by omega)]⟩
     have hsz:v'.cells.size=size:=by rw[← hb1,hvl];simp
     have hf:v'.cells.zipIdx.foldl (fun (cs:Array Value) (p:Value × Nat)=>cs.setIfInBounds (off+p.2) p.1) ⟨cells'⟩=⟨writeAt cells' off v'.cells.toList⟩:=by
      rw[← Array.foldl_toList,Array.toList_zipIdx]
      have:=fold_writeAt off v'.cells.toList 0 cells' (by simp;simp at hvl;omega)
      simpa using this
     simp only[Instr.fill,hpl]
     rw[if_neg (by simp[hsz];omega)]
     rw[← e1]
     congr 1
   · cases h
end Go.Vm
namespace Go.Vm
open Go.RowKit
variable {P:Program} {N:Th} {W0:World} {L:Lay} {H:Heap} {w:World}
theorem places_run:∀ (fs:List Field)(pl:List (Nat × Nat)),placesOf P fs=some pl→∀ w,(fs.mapM (m:=Sem) fun f=>do pure (f.offset,← sizeOf f.type)).run P w = .ok pl w
 | [],pl,h,w=>by simp only[placesOf,Option.some.injEq]at h;subst h;rfl
 | f :: fs, pl, h, w => by
  simp only[placesOf]at h
  cases hn:sizeT P f.type with
  | none=>simp[hn]at h
  | some n =>
   cases hp:placesOf P fs with
   | none=>simp[hn,hp]at h
   | some l =>
    simp only[hn,hp,Option.some.injEq]at h;subst h
    rw[List.mapM_cons]
    have ih:=places_run fs l hp w
    simp only[Sem.run_bind,run_sizeOf hn,Result.andThen_ok,Sem.run_pure]
    rw[ih]
    rfl
theorem build_run {t:TypeId}{ps ps':List (Nat × Value)}{v:Value}(h:exBuild P t ps=some v)(hp:PR L ps ps')(w:World) :
  ∃ v',(Instr.build t ⟨ps'⟩).run P w = .ok v' w∧VR L v v':=by
 unfold exBuild at h
 cases hz:zeroT P t with
 | none=>simp[hz]at h
 | some z =>
  simp only[hz]at h
  obtain⟨hg,ht,hr⟩:=run_zero hz
  obtain⟨hc,h1⟩:=(ground_VR L z hg).cells ht
  cases hu:P.underlying t with
  | none=>simp[hu]at h
  | some d =>
   cases d with
   | struct fields =>
    simp only[hu]at h
    cases hpl:placesOf P fields.toList with
    | none=>simp[hpl]at h
    | some pl =>
     simp only[hpl,Option.map_eq_some_iff]at h
     obtain⟨cs,h,rfl⟩:=h
     obtain⟨cs',e1,e2,e3,_⟩:=fill_run ps h hc h1 hp
     refine⟨.agg ⟨cs'⟩,?_,.agg _ _ e2.1 e2.2 e3⟩
     have hm:(fields.mapM (m:=Sem) fun f=>do pure (f.offset,← sizeOf f.type)).run P w = .ok pl.toArray w:=by
      rw[Array.mapM_eq_mapM_toList]
      simp only[Sem.run_map,places_run _ _ hpl,Result.andThen_ok]
     have e1':Instr.fill (fun i=>pl.toArray[i]?) z.cells ps'=some ⟨cs'⟩:=by
      rw[← e1];congr 1;funext i;simp
     simp only[Instr.build,Sem.run_bind,hr,run_underlying hu,Result.andThen_ok,hm]
     simp only[e1']
     rfl
   | array len e =>
    simp only[hu]at h
    cases hn:sizeT P e with
    | none=>simp[hn]at h
    | some n =>
     simp only[hn,Option.map_eq_some_iff]at h
     obtain⟨cs,h,rfl⟩:=h
     obtain⟨cs',e1,e2,e3,_⟩:=fill_run ps h hc h1 hp
     refine⟨.agg ⟨cs'⟩,?_,.agg _ _ e2.1 e2.2 e3⟩
     have e1':Instr.fill (fun i=>some (i * n,n)) z.cells ps'=some ⟨cs'⟩:=e1
     simp only[Instr.build,Sem.run_bind,hr,run_underlying hu,Result.andThen_ok,run_sizeOf hn]
     simp only[e1']
     rfl
   | _=>simp[hu]at h
theorem length_repCells (n:Nat)(zs:List Value):(repCells n zs).length=n * zs.length:=by
 simp[repCells,List.length_flatten,List.map_replicate,List.sum_replicate_nat]
theorem get_repCells (zs:List Value)(hz:0<zs.length):∀ (n k:Nat)(hk:k<(repCells n zs).length),(repCells n zs)[k]=zs[k % zs.length]'(Nat.mod_lt _ hz):=by
 intro n
 unfold repCells
 induction n with
 | zero=>intro k h;simp at h
 | succ n ih =>
  intro k h
  simp only[List.replicate_succ,List.flatten_cons]at h ⊢
  by_cases c:k<zs.length
  · rw[List.getElem_append_left c];congr 1;exact (Nat.mod_eq_of_lt c).symm
  · rw[List.getElem_append_right (by omega),ih (k - zs.length) (by simp at h ⊢;omega)]
    congr 1
    rw[Nat.mod_eq_sub_mod (a:=k) (by omega)]
theorem One.rep {zs:List Value}(h:One zs)(n:Nat):One (repCells n zs):=by
 intro i hi
 rcases Nat.eq_zero_or_pos zs.length with h0 | h0
 · rw[length_repCells,h0]at hi;omega
 · rw[get_repCells zs h0 n i hi];exact h _ _
theorem LR.rep {zs zs':List Value}(h:LR L zs zs')(n:Nat):LR L (repCells n zs) (repCells n zs'):=by
 refine⟨by rw[length_repCells,length_repCells,h.1],fun i h1 h2 => ?_⟩
 have e:=h.1
 rcases Nat.eq_zero_or_pos zs.length with h0 | h0
 · rw[length_repCells,h0]at h1;omega
 · rw[get_repCells zs h0 n i h1,get_repCells zs' (by omega) n i h2]
   have:i % zs.length=i % zs'.length:=by rw[e]
   have:=h.2 (i % zs.length) (Nat.mod_lt _ h0) (by rw[← e];exact Nat.mod_lt _ h0)
   simpa [e] using this
theorem range_rep (n:Nat)(zs:Array Value)(hz:0<zs.size):(Array.range (n * zs.size)).map (fun i=>zs[i % zs.size]!)=⟨repCells n zs.toList⟩:=by
 apply Array.ext
 · simp[length_repCells]
 · intro i h1 h2
   have hi:i<n * zs.size:=by simpa using h1
   simp only[Array.getElem_map,Array.getElem_range]
   have:=get_repCells zs.toList (by simpa using hz) n i (by rw[length_repCells];simpa using hi)
   show _=(repCells n zs.toList)[i]
   rw[this]
   rw[getElem!_pos zs (i % zs.size) (Nat.mod_lt _ hz)]
   simp
theorem buildSliceAt_run {t:TypeId}{len:Nat}{ps ps':List (Nat × Value)}{v:Value}{H':Heap}(S:Sim N W0 L H w){r:Nat}(F:Free N L H r)(h:exBuildSliceAt P t len ps r H=some (v,H'))(hp:PR L ps ps') :
  ∃ L' w' v',(Instr.buildSlice t len ⟨ps'⟩).run P w = .ok v' w'∧LeAt r L L'∧Sim N W0 L' H' w'∧VR L' v v':=by
 unfold exBuildSliceAt at h
 cases he:elemT P t with
 | none=>simp[he]at h
 | some e =>
  simp only[he]at h
  cases hn:sizeT P e with
  | none=>simp[hn]at h
  | some n =>
   cases hz:zeroT P e with
   | none=>simp[hn,hz]at h
   | some z =>
    simp only[hn,hz]at h
    split at h
    · rename_i hb
      simp only[Bool.and_eq_true,Bool.not_eq_true']at hb
      obtain⟨⟨hb1,hb2⟩,hb3⟩:=hb
      have hb1:len * n≤16777216:=Nat.le_of_ble_eq_true hb1
      have hb2:z.cells.toList.length=n:=Nat.eq_of_beq_eq_true hb2
      have hb3:n≠0:=Nat.ne_of_beq_eq_false hb3
      simp only[Option.map_eq_some_iff,Prod.mk.injEq]at h
      obtain⟨cs,h,rfl,rfl⟩:=h
      obtain⟨hg,ht,hr⟩:=run_zero hz
      obtain⟨hc,h1⟩:=(ground_VR L z hg).cells ht
      obtain⟨cs',e1,e2,e3,e4⟩:=fill_run ps h (hc.rep len) (h1.rep len) hp
      have hzs:z.cells.size=n:=by simpa using hb2
      refine⟨upd L r (w.heap.size,0,0),w.alloc (.cells ⟨cs'⟩ e),.slice (some ⟨w.heap.size,0,none⟩) len len,?_,upd_at F.lay,?_,?_⟩
      · have hcells:(Array.range (len * n)).map (fun i=>z.cells[i % z.cells.size]!)=⟨repCells len z.cells.toList⟩:=by
         rw[← hzs];exact range_rep len z.cells (by omega)
        by_cases hl:len=0
        · subst hl
          have hnil:repCells 0 z.cells.toList=[]:=by simp[repCells]
          rw[hnil]at e1
          simp only[Instr.buildSlice,Sem.run_bind,run_underlying (elemT_und he),Result.andThen_ok,run_sizeOf hn,Nat.zero_mul,if_true,Sem.run_pure]
          rw[if_neg (by omega)]
          simp only[Sem.run_pure,Result.andThen_ok,Array.range_zero',Array.map_empty,Sem.run_bind,e1]
          simp[newRow]
        · simp only[Instr.buildSlice,Sem.run_bind,run_underlying (elemT_und he),Result.andThen_ok,run_sizeOf hn]
          rw[if_neg (by omega),if_neg (Nat.mul_ne_zero hl hb3)]
          simp only[Sem.run_pure,Result.andThen_ok,Sem.run_bind,hr,hcells,e1]
          simp[newRow]
      · refine S.new_rowAt F ⟨cs'⟩ e 0 n 0 cs (fun k hk => ?_) e3 ?_ (fun _=>rfl)
        · have:=e2.1
          exact⟨cs'[k]'(by omega),by rw[cells_getElem?];exact List.getElem?_eq_getElem _,e2.2 k hk (by omega)⟩
        · have:=e2.1
          simp[spareOf]at *;omega
      · have:=VR.slice (L:=upd L r (w.heap.size,0,0)) r 0 len len _ _ _ (upd_same _ _ _)
        simpa using this
    · cases h
theorem buildSlice_run {t:TypeId}{len:Nat}{ps ps':List (Nat × Value)}{v:Value}{H':Heap}(S:Sim N W0 L H w)(h:exBuildSlice P t len ps H=some (v,H'))(hp:PR L ps ps') :
  ∃ L' w' v',(Instr.buildSlice t len ⟨ps'⟩).run P w = .ok v' w'∧L.le L'∧Sim N W0 L' H' w'∧VR L' v v' :=
 let ⟨L',w',v',h1,h2,h3⟩:=buildSliceAt_run S S.free h hp;⟨L',w',v',h1,h2.le,h3⟩
theorem run_asInt (k:IntKind)(n:Int)(w:World):(asInt (.int k n)).run P w = .ok n w:=rfl
theorem makeSlice_run {t:TypeId}{l c l' c' v:Value}{H':Heap}(S:Sim N W0 L H w)(h:exMakeSlice P t l c H=some (v,H'))(hl:VR L l l')(hc:VR L c c') :
  ∃ L' w' v',(Instr.makeSlice t l' c').run P w = .ok v' w'∧L.le L'∧Sim N W0 L' H' w'∧VR L' v v':=by
 unfold exMakeSlice at h
 split at h
 · rename_i kl l kc c e he
   cases hl
   cases hc
   cases hn:sizeT P e with
   | none=>simp[hn]at h
   | some n =>
    cases hz:zeroT P e with
    | none=>simp[hn,hz]at h
    | some z =>
     cases hb:bytesT P e with
     | none=>simp[hn,hz,hb]at h
     | some b =>
      simp only[hn,hz,hb]at h
      split at h
      · rename_i hh
        obtain⟨h1,h2,h3,h4,h5,h6⟩:=hh
        simp only[Option.some.injEq,Prod.mk.injEq]at h
        obtain⟨rfl,rfl⟩:=h
        obtain⟨hg,ht,hr⟩:=run_zero hz
        obtain⟨hzc,hz1⟩:=(ground_VR L z hg).cells ht
        obtain⟨i,hi,hib⟩:=run_info hb
        have hzs:z.cells.size=n:=by simpa using h5
        have wl:IntKind.i64.wrap l=l:=by rw[IntKind.wrap_i64];omega
        have wc:IntKind.i64.wrap c=c:=by rw[IntKind.wrap_i64];omega
        refine⟨upd L H.n (w.heap.size,0,0),w.alloc (.cells ⟨repCells c.toNat z.cells.toList⟩ e),.slice (some ⟨w.heap.size,0,none⟩) l.toNat c.toNat,?_,upd_le (S.fresh _ (Nat.le_refl _)),?_,?_⟩
        · have hcells:(Array.range (c.toNat * n)).map (fun i=>z.cells[i % z.cells.size]!)=⟨repCells c.toNat z.cells.toList⟩:=by
           rw[← hzs];exact range_rep c.toNat z.cells (by omega)
          simp only[Instr.makeSlice,Sem.run_bind,run_underlying (elemT_und he),Result.andThen_ok,run_asInt,wl,wc,typeInfo,run_program,hi,Sem.run_pure,hib]
          rw[if_neg (by simp;omega)]
          simp only[Sem.run_bind,run_askRoom,Result.andThen_ok,run_sizeOf hn]
          by_cases hc0:c=0
          · subst hc0
            have hnil:repCells 0 z.cells.toList=[]:=by simp[repCells]
            simp[hnil,newRow,Array.range_zero']
          · rw[if_neg (Nat.mul_ne_zero (by omega:c.toNat≠0) h6)]
            simp only[Sem.run_bind,hr,Sem.run_pure,Result.andThen_ok,hcells]
            simp[newRow]
        · refine S.new_row _ e 0 n 0 _ (fun k hk => ?_) (hz1.rep _) ?_ (fun _=>rfl)
          · exact⟨(repCells c.toNat z.cells.toList)[k],by rw[cells_getElem?];exact List.getElem?_eq_getElem _,(hzc.rep c.toNat).2 k hk hk⟩
          · simp[spareOf]
        · have:=VR.slice (L:=upd L H.n (w.heap.size,0,0)) H.n 0 l.toNat c.toNat _ _ _ (upd_same _ _ _)
          simpa using this
      · cases h
 · cases h
end Go.Vm
namespace Go.Vm
open Go.RowKit
variable {P:Program} {N:Th} {W0:World} {L:Lay} {H:Heap} {w:World}
theorem byteOf_unit {b o:Nat}{e:TypeId}{c:Array Value}{fr:Nat × Nat}(hb:w.heap[b]? = some (.cells c e fr))(he:sizeT P e=some 0):(byteOf ⟨b,o,none⟩).run P w = .ok 0 w:=by
 have hs:P.cellsOf e=0:=by
  unfold Program.cellsOf
  unfold sizeT at he
  rw[he];rfl
 simp[byteOf,noView,viewAt,World.shape?,hb,hs]
theorem field_run {s:TypeId}{a a' v:Value}{f:Nat}(S:Sim N W0 L H w)(h:exField P s a f H=some v)(ha:VR L a a') :
  ∃ v',(Instr.fieldAt s a' f).run P w = .ok v' w∧VR L v v':=by
 unfold exField at h
 split at h
 · rename_i id off fields hu
   cases hf:fields[f]? with
   | none=>simp[hf]at h
   | some fl =>
    simp only[hf]at h
    cases hn:sizeT P fl.type with
    | none=>simp[hn]at h
    | some n =>
     simp only[hn]at h
     split at h
     · rename_i hb
       have hb:n=0:=Nat.eq_of_beq_eq_true hb
       subst hb
       unfold unitField at h
       cases hg:H.get id with
       | unit e =>
        rw[hg]at h
        simp only[]at h
        split at h
        · rename_i he hz
          have hz:=Nat.eq_of_beq_eq_true hz
          simp only[Option.some.injEq]at h;subst h
          have hob:=S.obj id
          rw[hg]at hob
          cases ha with
          | ptr _ _ b o t hl =>
           rw[hl]at hob
           obtain⟨_,ho,c,fr,hbk⟩:=hob
           obtain rfl:off=0:=by omega
           have e1:fl.offset=0:=by omega
           have e2:fl.byteOffset=0:=by omega
           subst ho
           refine⟨.pointer (some ⟨b,0,none⟩),?_,?_⟩
           · simp[Instr.fieldAt,run_underlying hu,hf,Instr.sureAddr,fieldPlace,run_sizeOf hn,partAt,byteOf_unit hbk he,e1,e2]
           · have:=VR.ptr (L:=L) id 0 b 0 t hl
             simpa using this
        · cases h
       | _=>rw[hg]at h;cases h
     · rename_i hb
       have hb:n≠0:=Nat.ne_of_beq_eq_false hb
       simp only[Option.some.injEq]at h;subst h
       cases ha with
       | ptr _ _ b o t hl =>
        refine⟨.pointer (some ⟨b,o+off+fl.offset,none⟩),?_,?_⟩
        · simp[Instr.fieldAt,run_underlying hu,hf,Instr.sureAddr,fieldPlace,run_sizeOf hn,hb,Addr.add_mid]
        · have:=VR.ptr (L:=L) id (off+fl.offset) b o t hl
          rwa [show o+(off+fl.offset)=o+off+fl.offset by omega]at this
 · cases h
theorem index_run {t:TypeId}{x x' i i' v:Value}(h:exIndex P t x i=some v)(hx:VR L x x')(hi:VR L i i')(w:World) :
  ∃ v',(Instr.indexAt t x' i').run P w = .ok v' w∧VR L v v':=by
 unfold exIndex at h
 split at h
 · rename_i k i
   cases hi
   split at h
   · rename_i e id off len c hu
     cases hn:sizeT P e with
     | none=>simp[hn]at h
     | some n =>
      simp only[hn]at h
      split at h
      · rename_i hb
        simp only[Option.some.injEq]at h;subst h
        cases hx with
        | slice _ _ _ _ b o t hl =>
         refine⟨.pointer (some ⟨b,o+off+i.toNat * n,none⟩),?_,?_⟩
         · simp[Instr.indexAt,asIntOf,run_underlying hu,hb,run_sizeOf hn,Addr.add_mid]
         · have:=VR.ptr (L:=L) id (off+i.toNat * n) b o t hl
           rwa [show o+(off+i.toNat * n)=o+off+i.toNat * n by omega]at this
      · cases h
   · rename_i len e id off hu
     cases hn:sizeT P e with
     | none=>simp[hn]at h
     | some n =>
      simp only[hn]at h
      split at h
      · rename_i hb
        simp only[Option.some.injEq]at h;subst h
        cases hx with
        | ptr _ _ b o t hl =>
         refine⟨.pointer (some ⟨b,o+off+i.toNat * n,none⟩),?_,?_⟩
         · simp[Instr.indexAt,asIntOf,run_underlying hu,hb,run_sizeOf hn,Addr.add_mid,Instr.sureAddr]
         · have:=VR.ptr (L:=L) id (off+i.toNat * n) b o t hl
           rwa [show o+(off+i.toNat * n)=o+off+i.toNat * n by omega]at this
      · cases h
   · cases h
 · cases h
def OR (L:Lay):Option Value→Option Value→Prop
 | none,none=>True
 | some v,some v'=>VR L v v'
 | _,_=>False
theorem boundOf_same {d:Nat}{lo lo':Option Value}{i:Int}(h:boundOf d lo=some i)(ho:OR L lo lo'):lo'=lo:=by
 cases lo with
 | none => cases lo' with
  | none=>rfl
  | some _=>exact ho.elim
 | some v => cases lo' with
  | none=>exact ho.elim
  | some v' =>
   cases v with
   | int k n=>cases ho;rfl
   | _=>simp[boundOf]at h
theorem bound_run {d:Nat}{x:Option Value}{i:Int}(h:boundOf d x=some i)(y:Nat)(code:BoundsCode)(h0:0≤i)(h1:i≤y)(w:World) :
  (match x with | some v=>Instr.sliceBound v y code | none=>pure d:Sem Nat).run P w = .ok i.toNat w:=by
 cases x with
 | none=>simp only[boundOf,Option.some.injEq]at h;subst h;simp
 | some v =>
  cases v with
  | int k n =>
   simp only[boundOf,Option.some.injEq]at h;subst h
   have hh:0≤n∧n≤(y:Int):=⟨h0,h1⟩
   simp[Instr.sliceBound,asIntOf,hh]
  | _=>simp[boundOf]at h
theorem bounds2_run {isS:Bool}{len cap:Nat}{lo hi:Option Value}{l h:Int}(e1:boundOf 0 lo=some l)(e2:boundOf len hi=some h)(h0:0≤l)(h1:l≤h)(h2:h≤cap)(w:World) :
  (Instr.sliceBounds isS len cap lo hi none).run P w = .ok (l.toNat,h.toNat,cap) w:=by
 have hb1:=bound_run (P:=P) e1 h.toNat .sliceB h0 (by omega) w
 have hb2:=bound_run (P:=P) e2 cap (if isS then BoundsCode.sliceAcap else BoundsCode.sliceAlen) (by omega) h2 w
 unfold Instr.sliceBounds
 cases hi with
 | none =>
  simp only[boundOf,Option.some.injEq]at e2
  subst e2
  simp only[Sem.run_bind,Sem.run_pure,Result.andThen_ok]
  cases lo with
  | none=>simp only[boundOf,Option.some.injEq]at e1;subst e1;simp
  | some v=>simp only[Int.toNat_natCast]at hb1;simp[Sem.run_bind,hb1]
 | some v2 =>
  simp only at hb2
  simp only[Sem.run_bind,Sem.run_pure,Result.andThen_ok,hb2]
  cases lo with
  | none=>simp only[boundOf,Option.some.injEq]at e1;subst e1;simp
  | some v=>simp[Sem.run_bind,hb1]
theorem bounds3_run {isS:Bool}{len cap:Nat}{lo hi:Option Value}{k:IntKind}{l h m:Int}(e1:boundOf 0 lo=some l)(e2:boundOf len hi=some h)(e3:hi≠none)(h0:0≤l)(h1:l≤h)(h2:h≤m)(h3:m≤cap)(w:World) :
  (Instr.sliceBounds isS len cap lo hi (some (.int k m))).run P w = .ok (l.toNat,h.toNat,m.toNat) w:=by
 have hb1:=bound_run (P:=P) e1 h.toNat .slice3C h0 (by omega) w
 have hb2:=bound_run (P:=P) e2 m.toNat BoundsCode.slice3B (by omega) (by omega) w
 unfold Instr.sliceBounds
 have hm:(Instr.sliceBound (.int k m) cap (if isS then BoundsCode.slice3Acap else BoundsCode.slice3Alen)).run P w = .ok m.toNat w:=by
  have hh:0≤m∧m≤(cap:Int):=⟨by omega,h3⟩
  simp[Instr.sliceBound,asIntOf,hh]
 cases hi with
 | none=>exact absurd rfl e3
 | some v2 =>
  simp only at hb2
  simp only[Sem.run_bind,hm,Sem.run_pure,Result.andThen_ok,hb2]
  cases lo with
  | none=>simp only[boundOf,Option.some.injEq]at e1;subst e1;simp
  | some v=>simp[Sem.run_bind,hb1]
end Go.Vm
namespace Go.Vm
open Go.RowKit
variable {P:Program} {N:Th} {W0:World} {L:Lay} {H:Heap} {w:World}
def LastBound (mx:Option Value)(cap:Nat)(h:Int)(m:Nat)(hi:Option Value):Prop :=
 (mx=none∧m=cap∧h≤cap)∨(∃ k mi,mx=some (.int k mi)∧m=mi.toNat∧h≤mi∧mi≤cap∧hi≠none)
theorem cut_run {id off len cap n:Nat}{lo hi mx:Option Value}{v:Value}{H':Heap}{b o t:Nat}(S:Sim N W0 L H w)(h:cutA id off len cap n lo hi mx H=some (v,H'))(hl:L id=some (b,o,t)) :
  ∃ L' l hh m,L.le L'∧Sim N W0 L' H' w∧boundOf 0 lo=some l∧boundOf len hi=some hh∧0≤l∧l≤hh∧LastBound mx (cap+t) hh m hi ∧
   VR L' v (.slice (some (if m=l.toNat then ⟨b,o+off,none⟩else ⟨b,o+off+l.toNat * n,none⟩)) (hh.toNat - l.toNat) (m - l.toNat)):=by
 unfold cutA at h
 cases e1:boundOf 0 lo with
 | none=>simp[e1]at h
 | some l =>
  cases e2:boundOf len hi with
  | none=>simp[e1,e2]at h
  | some hh =>
   simp only[e1,e2]at h
   split at h
   · rename_i l2 h2 own tl es cs q1 q2 hg
     simp only[Option.some.injEq]at q1 q2
     subst q1 q2
     obtain⟨b',o',t',cs',hl',hr,hlr,hone,hone',ht,hown⟩:=S.row hg
     rw[hl]at hl'
     simp only[Option.some.injEq,Prod.mk.injEq]at hl'
     obtain⟨rfl,rfl,rfl⟩:=hl'
     cases mx with
     | some m =>
      simp only at h
      cases m with
      | int k m =>
       cases tl with
       | zero =>
        cases hi with
        | none=>simp at h
        | some hv =>
         simp only at h
         split at h
         · rename_i hb
           obtain⟨b0,b1,b2,b3⟩:=hb
           simp only[Option.some.injEq,Prod.mk.injEq]at h
           obtain⟨rfl,rfl⟩:=h
           have ht0:=ht rfl
           subst ht0
           refine⟨L,l,hh,m.toNat,Lay.le_refl L,S,rfl,rfl,b0,b1,.inr ⟨k,m,rfl,rfl,b2,by omega,by simp⟩,?_⟩
           have:=VR.slice (L:=L) id (if m=l then off else off+l.toNat * n) (hh.toNat - l.toNat) (m.toNat - l.toNat) b o 0 hl
           by_cases c:m=l
           · have c':m.toNat=l.toNat:=by omega
             rw[if_pos c]at this ⊢;rw[if_pos c'];simpa using this
           · have c':¬m.toNat=l.toNat:=by omega
             rw[if_neg c]at this ⊢;rw[if_neg c',show o+off+l.toNat * n=o+(off+l.toNat * n) by omega];simpa using this
         · cases h
       | succ _=>simp at h
      | _=>simp at h
     | none =>
      simp only at h
      split at h
      · rename_i hb
        obtain⟨b0,b1,b2⟩:=hb
        split at h
        · rename_i hg0
          have ht0:=ht rfl
          subst ht0
          simp only[Option.some.injEq,Prod.mk.injEq]at h
          obtain⟨rfl,rfl⟩:=h
          refine⟨L,l,hh,cap,Lay.le_refl L,S,rfl,rfl,b0,b1,.inl ⟨rfl,rfl,b2⟩,?_⟩
          have:=VR.slice (L:=L) id (if (cap:Int)=l then off else off+l.toNat * n) (hh.toNat - l.toNat) (cap - l.toNat) b o 0 hl
          by_cases c:(cap:Int)=l
          · have c':cap=l.toNat:=by omega
            rw[if_pos c]at this ⊢;rw[if_pos c'];simpa using this
          · have c':¬cap=l.toNat:=by omega
            rw[if_neg c]at this ⊢;rw[if_neg c',show o+off+l.toNat * n=o+(off+l.toNat * n) by omega];simpa using this
        · split at h
          · rename_i hc
            obtain⟨c1,c2⟩:=hc
            split at h
            · rename_i htl0
              split at h
              · rename_i hc2
                obtain⟨c3,c4⟩:=hc2
                subst c3
                simp only[Option.some.injEq,Prod.mk.injEq]at h
                obtain⟨rfl,rfl⟩:=h
                have hid:id<H.n:=Heap.lt_of_get hg (by simp)
                obtain⟨hN,hsz,hth⟩:=hown rfl
                have hob:=S.obj id
                rw[hg,hl]at hob
                obtain⟨k1,k2,k3,k4,k5⟩:=hob
                have S1:Sim N W0 L (H.set id (.row true 2 es cs)) w:=by
                 refine S.turn id hid _ ?_ ?_
                 · rw[hl]
                   exact⟨k1,k2,fun h=>(by cases h),fun h=>(by cases h),fun _=>⟨hN,hsz,fun j hj=>hth j (by simp[spareOf]at hj ⊢;omega)⟩⟩
                 · intro b' k hh'
                   rw[hl]at hh' ⊢;rw[hg]
                   obtain⟨q1,q2,q3⟩:=hh'
                   exact⟨q1,q2,by simp[spareOf]at q3 ⊢;omega⟩
                let o2:=if cap+t=l.toNat then o+off else o+off+l.toNat * es
                have hcap:l.toNat=cap:=by omega
                have ho2:0<t→o2=o+cs.length:=by
                 intro h0
                 show (if cap+t=l.toNat then o+off else o+off+l.toNat * es)=_
                 rw[if_neg (by omega),hcap];omega
                have hn':(H.set id (.row true 2 es cs)).n=H.n:=rfl
                have S2:=S1.put (.row true 1 es []) (b,o2,t) ?_ ?_ (S1.calm _ _ _ _ hl)
                · refine⟨_,l,hh,cap+t,upd_le (S1.fresh _ (Nat.le_refl _)),S2,rfl,rfl,b0,b1,.inl ⟨rfl,rfl,by omega⟩,?_⟩
                  have:=VR.slice (L:=upd L (H.set id (.row true 2 es cs)).n (b,o2,t)) H.n 0 0 0 b o2 t (upd_same _ _ _)
                  rw[show hh.toNat - l.toNat=0 by omega,show cap+t - l.toNat=0+t by omega]
                  have e:(if cap+t=l.toNat then (⟨b,o+off,none⟩:Addr)else ⟨b,o+off+l.toNat * es,none⟩)=⟨b,o2+0,none⟩:=by
                   show _=(⟨b,(if cap+t=l.toNat then o+off else o+off+l.toNat * es)+0,none⟩:Addr)
                   split<;>rfl
                  rw[e];exact this
                · refine⟨fun k hk=>by simp at hk,One.nil,fun h=>(by cases h),fun h=>(by cases h),fun _=>⟨hN,hsz,fun j hj => ?_⟩⟩
                  simp only[List.length_nil,Nat.zero_add,spareOf,if_true]at hj
                  have ht0:0<t:=by
                   rcases Nat.eq_zero_or_pos t with q | q
                   · subst q;simp at hj
                   · exact q
                  rw[ho2 ht0]
                  have:=hth (cs.length+j) (by simp[spareOf];omega)
                  rwa [show o+(cs.length+j)=o+cs.length+j by omega]at this
                · intro j b' k q1 q2
                  obtain⟨rfl,q3,q4⟩:=q1
                  simp only[List.length_nil,Nat.zero_add,spareOf,if_true]at q4
                  have ht0:0<t:=by
                   rcases Nat.eq_zero_or_pos t with q | q
                   · subst q;simp at q4;omega
                   · exact q
                  rw[ho2 ht0]at q3 q4
                  rw[Heap.get_set _ _ _ hid]at q2
                  split at q2
                  · rename_i ej;subst ej
                    rw[hl]at q2
                    obtain⟨_,q5,q6⟩:=q2
                    simp[spareOf]at q6;omega
                  · rename_i ej
                    refine S.apart j id _ k ej q2 ?_
                    rw[hg,hl]
                    exact⟨rfl,by omega,by simp[spareOf];omega⟩
              · cases h
            · cases h
          · rename_i hc
            simp only[Option.some.injEq,Prod.mk.injEq]at h
            obtain⟨rfl,rfl⟩:=h
            refine⟨L,l,hh,cap+t,Lay.le_refl L,S,rfl,rfl,b0,b1,.inl ⟨rfl,rfl,by omega⟩,?_⟩
            have:=VR.slice (L:=L) id (off+l.toNat * n) (hh.toNat - l.toNat) (cap - l.toNat) b o t hl
            rw[show cap+t - l.toNat=cap - l.toNat+t by omega]
            by_cases c:cap+t=l.toNat
            · have:l=0:=by
               by_cases c2:l=0
               · exact c2
               · exfalso;exact hc ⟨by omega,c2⟩
              subst this
              rw[if_pos c];simpa using this
            · rw[if_neg c,show o+off+l.toNat * n=o+(off+l.toNat * n) by omega];exact this
      · cases h
   · cases h
end Go.Vm
namespace Go.Vm
open Go.RowKit
variable {P:Program} {N:Th} {W0:World} {L:Lay} {H:Heap} {w:World}
theorem bounds_run {isS:Bool}{len cap:Nat}{lo hi mx:Option Value}{l h:Int}{m:Nat}(e1:boundOf 0 lo=some l)(e2:boundOf len hi=some h)(h0:0≤l)(h1:l≤h)(hm:LastBound mx cap h m hi)(w:World) :
  (Instr.sliceBounds isS len cap lo hi mx).run P w = .ok (l.toNat,h.toNat,m) w:=by
 rcases hm with⟨rfl,rfl,h2⟩ | ⟨k,mi,rfl,rfl,h2,h3,h4⟩
 · exact bounds2_run e1 e2 h0 h1 h2 w
 · exact bounds3_run e1 e2 h4 h0 h1 h2 h3 w
theorem mx_same {mx mx' hi:Option Value}{cap m:Nat}{h:Int}(hm:LastBound mx cap h m hi)(ho:OR L mx mx'):mx'=mx:=by
 rcases hm with⟨rfl,_⟩ | ⟨k,mi,rfl,_⟩
 · cases mx' with
   | none=>rfl
   | some _=>exact ho.elim
 · cases mx' with
   | none=>exact ho.elim
   | some _=>cases ho;rfl
theorem slice_run {t:TypeId}{x x' v:Value}{lo lo' hi hi' mx mx':Option Value}{H':Heap}(S:Sim N W0 L H w)(h:exSlice P t x lo hi mx H=some (v,H'))
  (hx:VR L x x') (h1:OR L lo lo') (h2:OR L hi hi') (h3:OR L mx mx') :
  ∃ L' w' v',(Instr.sliceAt t x' lo' hi' mx').run P w = .ok v' w'∧L.le L'∧Sim N W0 L' H' w'∧VR L' v v':=by
 unfold exSlice at h
 split at h
 · -- a string
   rename_i s hu
   cases hx
   cases e1:boundOf 0 lo with
   | none=>simp[e1]at h
   | some l =>
    cases e2:boundOf s.size hi with
    | none=>simp[e1,e2]at h
    | some hh =>
     simp only[e1,e2]at h
     split at h
     · rename_i q1 q2
       simp only[Option.some.injEq]at q1 q2
       subst q1 q2
       split at h
       · rename_i hb
         obtain⟨b0,b1,b2⟩:=hb
         simp only[Option.some.injEq,Prod.mk.injEq]at h
         obtain⟨rfl,rfl⟩:=h
         have:=boundOf_same e1 h1
         subst this
         have:=boundOf_same e2 h2
         subst this
         have:mx'=none:=by
          cases mx' with
          | none=>rfl
          | some _=>exact h3.elim
         subst this
         refine⟨L,w,.string (s.extract l.toNat hh.toNat),?_,Lay.le_refl L,S,.string _⟩
         simp[Instr.sliceAt,Instr.slice,run_underlying hu,bounds2_run e1 e2 b0 b1 b2]
       · cases h
     · cases h
 · -- a slice
   rename_i e id off len cap hu
   cases hn:sizeT P e with
   | none=>simp[hn]at h
   | some n =>
    simp only[hn]at h
    cases hx with
    | slice _ _ _ _ b o t hl =>
     obtain⟨L',l,hh,m,k1,k2,k3,k4,k5,k6,k7,k8⟩:=cut_run S h hl
     have:=boundOf_same k3 h1
     subst this
     have:=boundOf_same k4 h2
     subst this
     have:=mx_same k7 h3
     subst this
     refine⟨L',w,_,?_,k1,k2,k8⟩
     simp only[Instr.sliceAt,Instr.slice,Sem.run_bind,run_underlying hu,Result.andThen_ok,bounds_run k3 k4 k5 k6 k7,run_sizeOf hn,Sem.run_pure]
     congr 2
     split
     · rfl
     · simp[Addr.add_mid]
 · -- a nil slice
   rename_i e hu
   cases hx
   split at h
   · rename_i n q0 q1 q2
     simp only[Option.some.injEq,Prod.mk.injEq]at h
     obtain⟨rfl,rfl⟩:=h
     have:=boundOf_same q1 h1
     subst this
     have:=boundOf_same q2 h2
     subst this
     have:mx'=none:=by
      cases mx' with
      | none=>rfl
      | some _=>exact h3.elim
     subst this
     refine⟨L,w,.slice none 0 0,?_,Lay.le_refl L,S,.snil 0 0⟩
     have hb:=bounds2_run (P:=P) (isS:=true) (cap:=0) q1 q2 (Int.le_refl 0) (Int.le_refl 0) (by simp) w
     simp only[Instr.sliceAt,Instr.slice,Sem.run_bind,run_underlying hu,Result.andThen_ok,hb,run_sizeOf q0,Sem.run_pure]
     simp
   · cases h
 · -- an array
   rename_i len e id off hu
   split at h
   · rename_i n own es cs hn hg
     cases hx with
     | ptr _ _ b o t hl =>
      obtain⟨L',l,hh,m,k1,k2,k3,k4,k5,k6,k7,k8⟩:=cut_run S h hl
      obtain⟨b',o',t',cs',hl',_,_,_,_,ht,_⟩:=S.row hg
      rw[hl]at hl'
      simp only[Option.some.injEq,Prod.mk.injEq]at hl'
      obtain⟨rfl,rfl,rfl⟩:=hl'
      have ht0:=ht rfl
      subst ht0
      rw[Nat.add_zero]at k7
      have:=boundOf_same k3 h1
      subst this
      have:=boundOf_same k4 h2
      subst this
      have:=mx_same k7 h3
      subst this
      refine⟨L',w,_,?_,k1,k2,k8⟩
      simp only[Instr.sliceAt,Sem.run_bind,run_underlying hu,Result.andThen_ok,bounds_run k3 k4 k5 k6 k7,run_sizeOf hn,Sem.run_pure,Instr.sureAddr]
      congr 3
      split
      · rfl
      · simp[Addr.add_mid]
   · cases h
 · cases h
theorem cutR_run {id off len cap n r:Nat}{lo hi:Option Value}{v:Value}{H':Heap}{b o t:Nat}(S:Sim N W0 L H w)(F:Free N L H r)(h:cutR id off len cap n lo hi r H=some (v,H'))(hl:L id=some (b,o,t)) :
  ∃ L' l hh m,LeAt r L L'∧Sim N W0 L' H' w∧boundOf 0 lo=some l∧boundOf len hi=some hh∧0≤l∧l≤hh∧LastBound none (cap+t) hh m hi ∧
   VR L' v (.slice (some (if m=l.toNat then ⟨b,o+off,none⟩else ⟨b,o+off+l.toNat * n,none⟩)) (hh.toNat - l.toNat) (m - l.toNat)):=by
 unfold cutR at h
 cases e1:boundOf 0 lo with
 | none=>simp[e1]at h
 | some l =>
  cases e2:boundOf len hi with
  | none=>simp[e1,e2]at h
  | some hh =>
   simp only[e1,e2]at h
   split at h
   · rename_i l2 h2 own tl es cs q1 q2 hg
     simp only[Option.some.injEq]at q1 q2
     subst q1 q2
     obtain⟨b',o',t',cs',hl',hr,hlr,hone,hone',ht,hown⟩:=S.row hg
     rw[hl]at hl'
     simp only[Option.some.injEq,Prod.mk.injEq]at hl'
     obtain⟨rfl,rfl,rfl⟩:=hl'
     split at h
     · rename_i hb
       obtain⟨b0,b1,b2⟩:=hb
       split at h
       · have ht0:=ht rfl
         subst ht0
         simp only[Option.some.injEq,Prod.mk.injEq]at h
         obtain⟨rfl,rfl⟩:=h
         refine⟨L,l,hh,cap,LeAt.refl _ _,S,rfl,rfl,b0,b1,.inl ⟨rfl,rfl,b2⟩,?_⟩
         have:=VR.slice (L:=L) id (if (cap:Int)=l then off else off+l.toNat * n) (hh.toNat - l.toNat) (cap - l.toNat) b o 0 hl
         by_cases c:(cap:Int)=l
         · have c':cap=l.toNat:=by omega
           rw[if_pos c]at this ⊢;rw[if_pos c'];simpa using this
         · have c':¬cap=l.toNat:=by omega
           rw[if_neg c]at this ⊢;rw[if_neg c',show o+off+l.toNat * n=o+(off+l.toNat * n) by omega];simpa using this
       · rename_i htl
         split at h
         · rename_i hc
           obtain⟨c1,c2⟩:=hc
           split at h
           · simp only[Option.some.injEq,Prod.mk.injEq]at h
             obtain⟨rfl,rfl⟩:=h
             obtain⟨hN,hsz,hth⟩:=hown rfl
             let o2:=if cap+t=l.toNat then o+off else o+off+l.toNat * n
             have S2:=S.putAt F (.row true 2 n []) (b,o2,t) ⟨fun k hk=>by simp at hk,One.nil,fun h=>(by cases h),fun h=>(by cases h),fun _=>⟨hN,hsz,fun j hj=>by simp[spareOf]at hj⟩⟩ (fun j b' k q1 q2=>by
              obtain⟨_,q3,q4⟩:=q1
              simp[spareOf]at q4
              omega) (S.calm _ _ _ _ hl)
             refine⟨_,l,hh,cap+t,upd_at F.lay,S2,rfl,rfl,b0,b1,.inl ⟨rfl,rfl,by omega⟩,?_⟩
             have:=VR.slice (L:=upd L r (b,o2,t)) r 0 0 0 b o2 t (upd_same _ _ _)
             rw[show hh.toNat - l.toNat=0 by omega,show cap+t - l.toNat=0+t by omega]
             have e:(if cap+t=l.toNat then (⟨b,o+off,none⟩:Addr)else ⟨b,o+off+l.toNat * n,none⟩)=⟨b,o2+0,none⟩:=by
              show _=(⟨b,(if cap+t=l.toNat then o+off else o+off+l.toNat * n)+0,none⟩:Addr)
              split<;>rfl
             rw[e];exact this
           · cases h
         · rename_i hc
           simp only[Option.some.injEq,Prod.mk.injEq]at h
           obtain⟨rfl,rfl⟩:=h
           refine⟨L,l,hh,cap+t,LeAt.refl _ _,S,rfl,rfl,b0,b1,.inl ⟨rfl,rfl,by omega⟩,?_⟩
           have:=VR.slice (L:=L) id (off+l.toNat * n) (hh.toNat - l.toNat) (cap - l.toNat) b o t hl
           rw[show cap+t - l.toNat=cap - l.toNat+t by omega]
           by_cases c:cap+t=l.toNat
           · have hl0:l.toNat=0:=by
              rcases Nat.eq_zero_or_pos l.toNat with q | q
              · exact q
              · exact absurd ⟨by omega,by omega⟩ hc
             rw[if_pos c]
             rw[hl0]at this ⊢
             simpa using this
           · rw[if_neg c,show o+off+l.toNat * n=o+(off+l.toNat * n) by omega];exact this
     · cases h
   · cases h
theorem sliceAt_run {t:TypeId}{x x' v:Value}{lo lo' hi hi':Option Value}{r:Nat}{H':Heap}(S:Sim N W0 L H w)(F:Free N L H r)(h:exSliceAt P t x lo hi r H=some (v,H'))
  (hx:VR L x x') (h1:OR L lo lo') (h2:OR L hi hi') :
  ∃ L' w' v',(Instr.sliceAt t x' lo' hi' none).run P w = .ok v' w'∧LeAt r L L'∧Sim N W0 L' H' w'∧VR L' v v':=by
 unfold exSliceAt at h
 split at h
 · rename_i s hu
   cases hx
   cases e1:boundOf 0 lo with
   | none=>simp[e1]at h
   | some l =>
    cases e2:boundOf s.size hi with
    | none=>simp[e1,e2]at h
    | some hh =>
     simp only[e1,e2]at h
     split at h
     · rename_i hb
       obtain⟨b0,b1,b2⟩:=hb
       simp only[Option.some.injEq,Prod.mk.injEq]at h
       obtain⟨rfl,rfl⟩:=h
       have:=boundOf_same e1 h1
       subst this
       have:=boundOf_same e2 h2
       subst this
       refine⟨L,w,.string (s.extract l.toNat hh.toNat),?_,LeAt.refl _ _,S,.string _⟩
       simp[Instr.sliceAt,Instr.slice,run_underlying hu,bounds2_run e1 e2 b0 b1 b2]
     · cases h
 · rename_i e id off len cap hu
   cases hn:sizeT P e with
   | none=>simp[hn]at h
   | some n =>
    simp only[hn]at h
    cases hx with
    | slice _ _ _ _ b o t hl =>
     obtain⟨L',l,hh,m,k1,k2,k3,k4,k5,k6,k7,k8⟩:=cutR_run S F h hl
     have:=boundOf_same k3 h1
     subst this
     have:=boundOf_same k4 h2
     subst this
     refine⟨L',w,_,?_,k1,k2,k8⟩
     simp only[Instr.sliceAt,Instr.slice,Sem.run_bind,run_underlying hu,Result.andThen_ok,bounds_run k3 k4 k5 k6 k7,run_sizeOf hn,Sem.run_pure]
     congr 2
     split
     · rfl
     · simp[Addr.add_mid]
 · rename_i e hu
   cases hx
   split at h
   · rename_i n q0 q1 q2
     simp only[Option.some.injEq,Prod.mk.injEq]at h
     obtain⟨rfl,rfl⟩:=h
     have:=boundOf_same q1 h1
     subst this
     have:=boundOf_same q2 h2
     subst this
     refine⟨L,w,.slice none 0 0,?_,LeAt.refl _ _,S,.snil 0 0⟩
     have hb:=bounds2_run (P:=P) (isS:=true) (cap:=0) q1 q2 (Int.le_refl 0) (Int.le_refl 0) (by simp) w
     simp only[Instr.sliceAt,Instr.slice,Sem.run_bind,run_underlying hu,Result.andThen_ok,hb,run_sizeOf q0,Sem.run_pure]
     simp
   · cases h
 · cases h
end Go.Vm
namespace Go.Vm
open Go.RowKit
variable {P:Program} {N:Th} {W0:World} {L:Lay} {H:Heap} {w:World}
theorem cellsOf_run {size n:Nat}{x x':Value}{cs:List Value}(S:Sim N W0 L H w)(h:cellsOf H size n x=some cs)(hx:VR L x x') :
  ∃ cs',(∀ w1,w1.heap=w.heap→(Builtin.firstCells size n x').run P w1 = .ok ⟨cs'⟩ w1)∧LR L cs cs'∧One cs:=by
 unfold cellsOf at h
 split at h
 · rename_i id off l c
   split at h
   · rename_i own tl es rcs hg
     split at h
     · rename_i hle
       simp only[Option.some.injEq]at h;subst h
       cases hx with
       | slice _ _ _ _ b o t hl =>
        obtain⟨b',o',t',cs',hl',hr,hlr,h1,h1',_,_⟩:=S.row hg
        rw[hl]at hl'
        simp only[Option.some.injEq,Prod.mk.injEq]at hl'
        obtain⟨rfl,rfl,rfl⟩:=hl'
        refine⟨(cs'.drop off).take (n * size),fun w1 hw1 => ?_,(hlr.drop off).take _,(h1.drop off).take _⟩
        have hlen:((cs'.drop off).take (n * size)).length=n * size:=by have:=hlr.1;simp;omega
        have:=run_loadCells_list (P:=P) w1 ⟨b,o+off,none⟩ ((cs'.drop off).take (n * size)) (fun j v hv=>by rw[Addr.add_mid,World.cell?_of_block (w:=w) (by rw[hw1])];exact rangeAt_sub hr off (n * size) j v hv)
        rw[hlen]at this
        simpa [Builtin.firstCells] using this
     · cases h
   · cases h
 · split at h
   · rename_i hn
     simp only[Option.some.injEq]at h;subst h hn
     cases hx
     exact⟨[],fun w1 _=>rfl,LR.nil L,One.nil⟩
   · cases h
 · rename_i s
   split at h
   · simp only[Option.some.injEq]at h;subst h
     cases hx
     refine⟨_,fun w1 _ => ?_,groundL_LR L _ ?_,?_⟩
     · simp only[Builtin.firstCells,Sem.run_pure]
       congr 1
       apply Array.ext'
       simp[ByteArray.data_extract]
     · have:∀ l:List UInt8,groundL (l.map fun b=>Value.int .u8 b.toNat)=true:=by
        intro l;induction l with
        | nil=>rfl
        | cons _ _ ih=>simp[groundL,ground,ih]
       exact this _
     · intro i hi;simp[Value.oneCell']
   · cases h
 · cases h
theorem cellsOf_length {size n:Nat}{x:Value}{cs:List Value}(h:cellsOf H size n x=some cs):cs.length=n * size:=by
 unfold cellsOf at h
 split at h
 · split at h
   · split at h
     · simp only[Option.some.injEq]at h;subst h;simp;omega
     · cases h
   · cases h
 · split at h
   · rename_i hn
     simp only[Option.some.injEq]at h;subst h hn;simp
   · cases h
 · split at h
   · rename_i hh
     obtain⟨rfl,h2⟩:=hh
     simp only[Option.some.injEq]at h;subst h
     have:∀ s:ByteArray,s.data.toList.length=s.size:=fun s=>rfl
     simp[this];omega
   · cases h
 · cases h
theorem lenA_run {x x':Value}{m:Nat}(h:lenA x=some m)(hx:VR L x x')(w:World):(Builtin.lenOf x').run P w = .ok m w:=by
 cases hx<;>simp[lenA]at h<;>subst h<;>rfl
theorem growBy_le (n:Nat):∀ (k c:Nat),c≤n→Builtin.growBy n k c≤2 * n+192
 | 0,c,h=>by simp only[Builtin.growBy];omega
 | k + 1, c, h => by
  simp only[Builtin.growBy]
  split
  · omega
  · by_cases h2:c+(c+768) / 4≤n
    · exact growBy_le n k _ h2
    · cases k with
      | zero=>simp only[Builtin.growBy];omega
      | succ k=>simp only[Builtin.growBy];rw[if_pos (by omega)];omega
theorem nextcap_le {need cap:Nat}(h:cap<need):Builtin.nextslicecap need cap≤2 * need+192:=by
 unfold Builtin.nextslicecap
 split
 · omega
 · split
   · omega
   · exact growBy_le need 4 cap (by omega)
end Go.Vm
namespace Go.Vm
open Go.RowKit
variable {P:Program} {N:Th} {W0:World} {L:Lay} {H:Heap} {w:World}
theorem choose_cap (need cap:Nat)(e:TypeId)(w:World):∃ c,need≤c∧(choose (.appendCap need cap e)).run P w = .ok c w.drew:=by
 refine⟨_,?_,rfl⟩
 simp only[Question.cut];exact Nat.le_add_right _ _
theorem append_grow {t t1 ty e:TypeId}{d:TypeDesc}{n b m len cap:Nat}{base:Option Addr}{x' z:Value}{old new:List Value}(he:elemT P t=some e)(hu1:P.underlying t1=some d)(hd:∀ k,d ≠ .int k)
  (hn:sizeT P e=some n) (hb:bytesT P e=some b) (hz:zeroT P e=some z) (hzl:z.cells.toList.length=n) (h0:n≠0) (hm:(Builtin.lenOf x').run P w = .ok m w)
  (hneed:cap<len+m) (hbig:(len+m+200) * b≤140737488355328) (hbig2:len+m≤140737488355328)
  (hold:∀ w1,w1.heap=w.heap→(Builtin.firstCells n len (.slice base len cap)).run P w1 = .ok ⟨old⟩ w1)
  (hnew:∀ w1,w1.heap=w.heap→(Builtin.firstCells n m x').run P w1 = .ok ⟨new⟩ w1) (ts:List TypeId) :
  ∃ c,len+m≤c∧(Builtin.append_ ⟨t :: t1 :: ts⟩ ty #[.slice base len cap,x']).run P w =
   .ok (.slice (some ⟨w.heap.size,0,none⟩) (len+m) c) (w.drew.alloc (.cells ⟨old++new++repCells (c - (len+m)) z.cells.toList⟩ e)):=by
 obtain⟨c,hc,hrun⟩:=choose_cap (P:=P) (len+m) cap e w
 refine⟨c,hc,?_⟩
 obtain⟨i,hi,hib⟩:=run_info hb
 obtain⟨hg,ht,hr⟩:=run_zero hz
 have hnc:=nextcap_le hneed
 have hbnd:Builtin.nextslicecap (len+m) cap * b≤281474976710656:=by
  have:Builtin.nextslicecap (len+m) cap * b≤(2 * (len+m+200)) * b:=Nat.mul_le_mul_right _ (by omega)
  rw[Nat.mul_assoc]at this;omega
 have hfm:(match d with | TypeDesc.int _=>true | _=>false)=false:=by cases d<;>first | rfl | exact absurd rfl (hd _)
 have hzc:Builtin.zeroCells z.cells (c - (len+m))=⟨repCells (c - (len+m)) z.cells.toList⟩:=by
  unfold Builtin.zeroCells
  exact range_rep _ z.cells (by have : z.cells.size = n := by simpa using hzl
                                omega)
 unfold Builtin.append_
 simp only[List.getElem?_toArray,List.getElem?_cons_zero,List.getElem?_cons_succ,Sem.run_bind,run_underlying (elemT_und he),Result.andThen_ok,run_sizeOf hn,Sem.run_pure,run_underlying hu1,hfm,Bool.false_eq_true,if_false,hm]
 rw[if_neg (by omega)]
 simp only[Sem.run_bind,typeInfo,run_program,Result.andThen_ok,hi,Sem.run_pure,hib,Sem.run_ite,false_or]
 rw[if_neg (by simp;omega),if_neg (by omega)]
 simp only[Result.andThen_ok,Sem.run_bind,hrun,run_askRoom,hold w.drew rfl,Bool.not_false,if_true,hnew w.drew rfl,hr,hzc,newRow,run_newObj,Sem.run_pure,List.append_toArray]
 simp
 rfl
theorem append_room {t t1 ty e:TypeId}{d:TypeDesc}{n m len cap:Nat}{b o:Nat}{x':Value}{new:List Value}(he:elemT P t=some e)(hu1:P.underlying t1=some d)(hd:∀ k,d ≠ .int k)
  (hn:sizeT P e=some n) (hm:(Builtin.lenOf x').run P w = .ok m w)
  (hroom:len+m≤cap) (hnew:(Builtin.firstCells n m x').run P w = .ok ⟨new⟩ w) (hth:w.there b (o+len * n) new.length) (h1:One new) (ts:List TypeId) :
  (Builtin.append_ ⟨t :: t1 :: ts⟩ ty #[.slice (some ⟨b,o,none⟩) len cap,x']).run P w =
   .ok (.slice (some ⟨b,o,none⟩) (len+m) cap) (w.setCells b (o+len * n) new):=by
 have hfm:(match d with | TypeDesc.int _=>true | _=>false)=false:=by cases d<;>first | rfl | exact absurd rfl (hd _)
 have hst:=run_storeCells_cells (P:=P) b (o+len * n) new 0 w (fun j hj=>by simpa using (hth j (by omega)).1) (fun j hj=>by simpa using (hth j (by omega)).2)
  (fun u hu=>by obtain⟨i,hi,rfl⟩:=List.getElem_of_mem hu;exact h1 i hi)
 simp only[Nat.add_zero]at hst
 unfold Builtin.append_
 simp only[List.getElem?_toArray,List.getElem?_cons_zero,List.getElem?_cons_succ,Sem.run_bind,run_underlying (elemT_und he),Result.andThen_ok,run_sizeOf hn,Sem.run_pure,run_underlying hu1,hfm,Bool.false_eq_true,if_false,hm]
 rw[if_pos hroom]
 simp only[Bool.not_false,if_true,Sem.run_bind,hnew,Result.andThen_ok,Addr.add_mid,hst,Sem.run_pure]
theorem append_room0 {t t1 ty e:TypeId}{d:TypeDesc}{n len cap:Nat}{base:Option Addr}{x':Value}(he:elemT P t=some e)(hu1:P.underlying t1=some d)(hd:∀ k,d ≠ .int k)
  (hn:sizeT P e=some n) (hm:(Builtin.lenOf x').run P w = .ok 0 w)
  (hroom:len≤cap) (hnew:(Builtin.firstCells n 0 x').run P w = .ok #[] w) (ts:List TypeId) :
  (Builtin.append_ ⟨t :: t1 :: ts⟩ ty #[.slice base len cap,x']).run P w = .ok (.slice base len cap) w:=by
 have hfm:(match d with | TypeDesc.int _=>true | _=>false)=false:=by cases d<;>first | rfl | exact absurd rfl (hd _)
 unfold Builtin.append_
 simp only[List.getElem?_toArray,List.getElem?_cons_zero,List.getElem?_cons_succ,Sem.run_bind,run_underlying (elemT_und he),Result.andThen_ok,run_sizeOf hn,Sem.run_pure,run_underlying hu1,hfm,Bool.false_eq_true,if_false,hm]
 rw[if_pos (by omega)]
 simp only[Bool.not_false,if_true,Sem.run_bind,hnew,Result.andThen_ok]
 cases base with
 | none=>simp
 | some a=>simp[storeCells]
theorem appendMake_run {t t1 e ty:TypeId}{d:IntKind}{ts:List TypeId}{base:Option Addr}{len cap:Nat}{s' x x' v:Value}{H':Heap}(S:Sim N W0 L H w)(he:elemT P t=some e)(hu1:P.underlying t1=some (.int d))
  (h:exAppendMake P e base len cap x H=some (v,H')) (hs:VR L (.slice base len cap) s') (hx:VR L x x') :
  ∃ L' w' v',(Builtin.append_ ⟨t :: t1 :: ts⟩ ty #[s',x']).run P w = .ok v' w'∧L.le L'∧Sim N W0 L' H' w'∧VR L' v v':=by
 unfold exAppendMake at h
 split at h
 · rename_i k
   split at h
   · rename_i n b z hn hb hz
     split at h
     · rename_i hh
       obtain⟨rfl,rfl,hk0,hk1,hb1,hzl,h0⟩:=hh
       cases hs
       cases hx
       obtain⟨i,hi,hib⟩:=run_info hb
       obtain⟨hg,ht,hr⟩:=run_zero hz
       have hw:IntKind.i64.wrap k=k:=Go.IntWalk.i64_in k ⟨by omega,by omega⟩
       have hkb:k * (b:Int)≤1000000 * 1000:=Int.le_trans (Int.mul_le_mul_of_nonneg_right hk1 (by omega)) (Int.mul_le_mul_of_nonneg_left (by omega) (by omega))
       have hkb2:k.toNat * b≤1000000 * 1000:=Nat.mul_le_mul (by omega) hb1
       obtain⟨hc,h1⟩:=(ground_VR L z hg).cells ht
       have hzs:z.cells.size=n:=by simpa using hzl
       by_cases hz0:k=0
       · rw[if_pos hz0]at h
         simp only[Option.some.injEq,Prod.mk.injEq]at h
         obtain⟨rfl,rfl⟩:=h
         subst hz0
         refine⟨L,w,_,?_,Lay.le_refl L,S,.snil _ _⟩
         unfold Builtin.append_
         simp[run_underlying (elemT_und he),run_underlying hu1,run_sizeOf hn,asInt,asIntOf,hw,typeInfo,hi,hib,Result.andThen]
       · rw[if_neg hz0]at h
         simp only[Option.some.injEq,Prod.mk.injEq]at h
         obtain⟨rfl,rfl⟩:=h
         obtain⟨m,rfl⟩:∃ m:Nat,k=m:=⟨k.toNat,by omega⟩
         have hm:m≠0:=by omega
         simp only[Int.toNat_natCast]at hkb2 ⊢
         obtain⟨c,hcc,hrunc⟩:=choose_cap (P:=P) m 0 e w
         have hz1:∀ q,Builtin.zeroCells z.cells q=⟨repCells q z.cells.toList⟩:=fun q=>by
          unfold Builtin.zeroCells
          exact range_rep q z.cells (by omega)
         have hnc:Builtin.nextslicecap m 0=m:=by unfold Builtin.nextslicecap;rw[if_pos (by omega)]
         refine⟨upd L H.n (w.drew.heap.size,0,c - m),w.drew.alloc (.cells ⟨repCells m z.cells.toList++repCells (c - m) z.cells.toList⟩ e),.slice (some ⟨w.drew.heap.size,0,none⟩) m c,?_,upd_le (S.drew.fresh _ (Nat.le_refl _)),?_,?_⟩
         · unfold Builtin.append_
           have hmn:¬(m=0∨n=0):=by omega
           simp only[List.getElem?_toArray,List.getElem?_cons_zero,List.getElem?_cons_succ,Sem.run_bind,run_underlying (elemT_und he),Result.andThen_ok,run_sizeOf hn,Sem.run_pure,run_underlying hu1,if_true,run_asInt,hw]
           rw[if_neg (by omega)]
           simp only[Sem.run_bind,typeInfo,run_program,Result.andThen_ok,hi,Sem.run_pure,hib,Sem.run_ite]
           rw[if_neg (by omega)]
           simp only[Sem.run_pure,Result.andThen_ok,Int.toNat_natCast,Nat.zero_add]
           rw[if_neg (by omega)]
           simp only[Sem.run_bind,Result.andThen_ok,Sem.run_pure,Sem.run_ite,true_or,and_true]
           have h9:IntKind.i64.max=9223372036854775807:=by decide
           rw[if_neg (by rw[h9];omega),hnc,if_neg (by omega)]
           have hmn2:¬m * n=0:=Nat.mul_ne_zero hm h0
           simp only[Result.andThen_ok,Sem.run_bind,hrunc,run_askRoom,Builtin.firstCells,Bool.not_true,Bool.false_eq_true,if_false,hr,hz1,newRow,run_newObj,Sem.run_pure]
           rw[if_neg hmn2]
           simp
         · refine S.drew.new_row _ e 1 n (c - m) (repCells m z.cells.toList) (fun q hq => ?_) (h1.rep m) ?_ (fun h=>by cases h)
           · have:=(hc.rep m).2 q hq hq
             refine⟨(repCells m z.cells.toList)[q]'hq,?_,this⟩
             rw[cells_getElem?,List.getElem?_append_left hq];exact List.getElem?_eq_getElem _
           · simp only[spareOf,if_true,List.size_toArray,List.length_append,length_repCells,hzl];omega
         · have:=VR.slice (L:=upd L H.n (w.drew.heap.size,0,c - m)) H.n 0 m m _ _ _ (upd_same _ _ _)
           rw[show m+(c - m)=c by omega]at this
           simpa using this
     · cases h
   · cases h
 · cases h
theorem Free.kill {r:Nat}(F:Free N L H r)(id:Nat)(hid:id<H.n):Free N L (H.set id .dead) r:=⟨F.void,F.le,by rw[Heap.get_set _ _ _ hid];split;rfl;exact F.dead,F.lay⟩
theorem appendRow_run {t t1 ty e:TypeId}{d:TypeDesc}{ts:List TypeId}{base:Option Addr}{len cap:Nat}{s' x x' v:Value}{H':Heap}(S:Sim N W0 L H w){r:Nat}(F:Free N L H r)(he:elemT P t=some e)(hu1:P.underlying t1=some d)(hd:∀ k,d ≠ .int k)
  (h:exAppendRow P e base len cap x r (fun H o=>H.pushAt r o) H=some (v,H')) (hs:VR L (.slice base len cap) s') (hx:VR L x x') :
  ∃ L' w' v',(Builtin.append_ ⟨t :: t1 :: ts⟩ ty #[s',x']).run P w = .ok v' w'∧LeAt r L L'∧Sim N W0 L' H' w'∧VR L' v v':=by
 unfold exAppendRow at h
 split at h
 · rename_i n b m z hn hb hlm hz
   cases hc:cellsOf H n m x with
   | none=>simp[hc]at h
   | some new =>
    simp only[hc]at h
    obtain⟨new',hnewd,hnlr,hn1⟩:=cellsOf_run (P:=P) S hc hx
    have hnew':=hnewd w rfl
    have hlen:=lenA_run (P:=P) hlm hx w
    split at h
    · rename_i hh
      obtain⟨h0,hzl,hbig,hbig2,hcap⟩:=hh
      have hnewlen:new.length=m * n:=cellsOf_length hc
      have hn':=hnlr.1
      have hn1':=hnlr.one hn1
      split at h
      · -- of a nil slice
        split at h
        · rename_i hm0
          subst hm0
          simp only[Option.some.injEq,Prod.mk.injEq]at h
          obtain⟨rfl,rfl⟩:=h
          cases hs
          have:new'=[]:=by
           have:new'.length=0:=by omega
           exact List.eq_nil_of_length_eq_zero this
          subst this
          exact⟨L,w,.slice none len cap,append_room0 he hu1 hd hn hlen hcap hnew' ts,LeAt.refl _ _,S,.snil _ _⟩
        · rename_i hm0
          split at h
          · rename_i hc0
            obtain⟨rfl,rfl⟩:=hc0
            simp only[Option.some.injEq,Prod.mk.injEq]at h
            obtain⟨rfl,rfl⟩:=h
            cases hs
            obtain⟨c,hcc,hrun⟩:=append_grow (P:=P) (ty:=ty) (base:=none) he hu1 hd hn hb hz hzl h0 hlen (cap:=0) (len:=0) (by omega) hbig hbig2 (old:=[]) (fun w1 _=>rfl) hnewd ts
            refine⟨_,_,_,hrun,upd_at F.lay,S.drew.new_rowAt F _ e 1 n (c - m) new (fun k hk => ?_) hn1 ?_ (fun h=>by cases h),?_⟩
            · exact⟨new'[k]'(by omega),by rw[cells_getElem?];simp only[List.nil_append];rw[List.getElem?_append_left (by omega)];exact List.getElem?_eq_getElem _,hnlr.2 k hk (by omega)⟩
            · simp only[spareOf,if_true,List.size_toArray,List.nil_append,List.length_append,length_repCells,hzl,Nat.zero_add];omega
            · have:=VR.slice (L:=upd L r (w.drew.heap.size,0,c - m)) r 0 m m _ _ _ (upd_same _ _ _)
              rw[show m+(c - m)=c by omega]at this
              simpa using this
          · cases h
      · -- of a slice
        rename_i id off
        cases hs with
        | slice _ _ _ _ b0 o t0 hl =>
        split at h
        · rename_i hm0
          subst hm0
          simp only[Option.some.injEq,Prod.mk.injEq]at h
          obtain⟨rfl,rfl⟩:=h
          have:new'=[]:=by
           have:new'.length=0:=by omega
           exact List.eq_nil_of_length_eq_zero this
          subst this
          exact⟨L,w,_,append_room0 he hu1 hd hn hlen (by omega) hnew' ts,LeAt.refl _ _,S,.slice _ _ _ _ _ _ _ hl⟩
        · rename_i hm0
          split at h
          · rename_i own tl es cs hg
            obtain⟨b1,o1,t1',cs',hl',hr,hlr,hone,hone',ht,hown⟩:=S.row hg
            rw[hl]at hl'
            simp only[Option.some.injEq,Prod.mk.injEq]at hl'
            obtain⟨rfl,rfl,rfl⟩:=hl'
            have hcl:=hlr.1
            have hid:id<H.n:=Heap.lt_of_get hg (by simp)
            split at h
            · -- room that is known
              rename_i hroom
              split at h
              · rename_i hh2
                obtain⟨rfl,hle⟩:=hh2
                simp only[Option.some.injEq,Prod.mk.injEq]at h
                obtain⟨rfl,rfl⟩:=h
                have hmul:(len+m) * n=len * n+m * n:=Nat.add_mul _ _ _
                have hth:w.there b0 (o+off+len * n) new'.length:=fun j hj=>by
                 have:=(hown rfl).2.2 (off+len * n+j) (by omega)
                 rwa [show o+(off+len * n+j)=o+off+len * n+j by omega]at this
                have hrun:=append_room (P:=P) (ty:=ty) he hu1 hd hn hlen (cap:=cap+t0) (b:=b0) (o:=o+off) (by omega) hnew' hth hn1' ts
                refine⟨L,_,_,hrun,LeAt.refl _ _,?_,.slice _ _ _ _ _ _ _ hl⟩
                have:=S.write hg hl (off+len * n) hnlr hn1 (by omega)
                rwa [show o+(off+len * n)=o+off+len * n by omega]at this
              · cases h
            · rename_i hroom
              split at h
              · rename_i hle
                have hold:∀ w1,w1.heap=w.heap→(Builtin.firstCells n len (.slice (some ⟨b0,o+off,none⟩) len (cap+t0))).run P w1 = .ok ⟨(cs'.drop off).take (len * n)⟩ w1:=fun w1 hw1=>by
                 have hlen2:((cs'.drop off).take (len * n)).length=len * n:=by simp;omega
                 have:=run_loadCells_list (P:=P) w1 ⟨b0,o+off,none⟩ ((cs'.drop off).take (len * n)) (fun j v hv=>by rw[Addr.add_mid,World.cell?_of_block (w:=w) (by rw[hw1])];exact rangeAt_sub hr off (len * n) j v hv)
                 rw[hlen2]at this
                 simpa [Builtin.firstCells] using this
                have holdlr:LR L ((cs.drop off).take (len * n)) ((cs'.drop off).take (len * n)):=(hlr.drop off).take _
                have hold1:One ((cs.drop off).take (len * n)):=(hone.drop off).take _
                have hlr2:=holdlr.append hnlr
                have h12:=hold1.append hn1
                have hll:((cs.drop off).take (len * n)++new).length=(len+m) * n:=by simp[Nat.add_mul];omega
                have grow:∀ H1:Heap,Sim N W0 L H1 w→cap+t0<len+m→Free N L H1 r→∃ L' w' v',(Builtin.append_ ⟨t :: t1 :: ts⟩ ty #[.slice (some ⟨b0,o+off,none⟩) len (cap+t0),x']).run P w = .ok v' w'∧LeAt r L L' ∧
                  Sim N W0 L' (H1.pushAt r (.row true 1 n ((cs.drop off).take (len * n)++new))) w'∧VR L' (.slice (some ⟨r,0,none⟩) (len+m) (len+m)) v':=by
                 intro H1 S1 hneed F1
                 obtain⟨c,hcc,hrun⟩:=append_grow (P:=P) (ty:=ty) he hu1 hd hn hb hz hzl h0 hlen hneed hbig hbig2 hold hnewd ts
                 refine⟨_,_,_,hrun,upd_at F1.lay,S1.drew.new_rowAt F1 _ e 1 n (c - (len+m)) _ (fun k hk => ?_) h12 ?_ (fun h=>by cases h),?_⟩
                 · exact⟨((cs'.drop off).take (len * n)++new')[k]'(by rw[← hlr2.1];exact hk),by rw[cells_getElem?];rw[List.getElem?_append_left (by rw[← hlr2.1];exact hk)];exact List.getElem?_eq_getElem _,hlr2.2 k hk _⟩
                 · simp only[spareOf,if_true,List.size_toArray,List.length_append,length_repCells,hzl]
                   have:=hlr2.1
                   simp only[List.length_append]at this;omega
                 · have:=VR.slice (L:=upd L r (w.drew.heap.size,0,c - (len+m))) r 0 (len+m) (len+m) _ _ _ (upd_same _ _ _)
                   rw[show len+m+(c - (len+m))=c by omega]at this
                   simpa using this
                split at h
                · -- its capacity is known
                  have ht0:=ht rfl
                  simp only[Option.some.injEq,Prod.mk.injEq]at h
                  obtain⟨rfl,rfl⟩:=h
                  exact grow H S (by omega) F
                · -- it is not
                  split at h
                  · rename_i hh2
                    obtain⟨rfl,hes,hle2⟩:=hh2
                    have hes':=hes.symm
                    subst hes'
                    simp only[Option.some.injEq,Prod.mk.injEq]at h
                    obtain⟨rfl,rfl⟩:=h
                    by_cases hneed:cap+t0<len+m
                    · exact grow _ (S.kill id hid) hneed (F.kill id hid)
                    · -- in place
                      obtain⟨hN,hsz,hth⟩:=hown rfl
                      have hm2:(len+m) * n=len * n+m * n:=Nat.add_mul _ _ _
                      have hm3:(cap+t0) * n=cap * n+t0 * n:=Nat.add_mul _ _ _
                      have hm4:(len+m) * n≤(cap+t0) * n:=Nat.mul_le_mul_right _ (by omega)
                      have hsp:(cap+t0 - (len+m)) * n=(cap+t0) * n - (len+m) * n:=Nat.sub_mul _ _ _
                      have hspare:spareOf 1 t0 n=t0 * n:=by simp[spareOf]
                      have hth2:w.there b0 (o+off+len * n) new'.length:=fun j hj=>by
                       have:=hth (off+len * n+j) (by rw[hspare];omega)
                       rwa [show o+(off+len * n+j)=o+off+len * n+j by omega]at this
                      have hrun:=append_room (P:=P) (ty:=ty) he hu1 hd hn hlen (cap:=cap+t0) (b:=b0) (o:=o+off) (by omega) hnew' hth2 hn1' ts
                      have hfree:∀ j k,o+off≤k→k<o+off+(cap+t0) * n→¬Owns ((H.set id .dead).get j) (L j) b0 k:=by
                       intro j k k1 k2 k3
                       rw[Heap.get_set _ _ _ hid]at k3
                       split at k3
                       · exact k3
                       · rename_i ej
                         refine S.apart j id b0 k ej k3 ?_
                         rw[hg,hl]
                         exact⟨rfl,by omega,by rw[hspare];omega⟩
                      have hcell:∃ v,w.cell? ⟨b0,o+off+len * n,none⟩=some v∨new'=[]:=by
                       cases hq:new' with
                       | nil=>exact⟨undef,.inr rfl⟩
                       | cons q qs =>
                        have:=(hth2 0 (by rw[hq];simp)).1
                        obtain⟨u,hu⟩:=Option.isSome_iff_exists.1 this
                        exact⟨u,.inl hu⟩
                      have S2:=(S.kill id hid).write_free b0 (o+off+len * n) new' hN hcell (fun j k k1 k2=>hfree j k (by omega) (by omega))
                      have hins:∀ j,j<new'.length→(w.cell? ⟨b0,o+off+len * n+j,none⟩).isSome=true:=fun j hj=>(hth2 j hj).1
                      have S3:=S2.putAt (F.kill id hid) (.row true 1 n ((cs.drop off).take (len * n)++new)) (b0,o+off,cap+t0 - (len+m)) ?_ ?_ (S2.calm _ _ _ _ hl)
                      · refine⟨_,_,_,hrun,upd_at F.lay,S3,?_⟩
                        have:=VR.slice (L:=upd L r (b0,o+off,cap+t0 - (len+m))) r 0 (len+m) (len+m) _ _ _ (upd_same _ _ _)
                        rw[show len+m+(cap+t0 - (len+m))=cap+t0 by omega]at this
                        exact this
                      · have hle':=upd_le (x:=(b0,o+off,cap+t0 - (len+m))) F.lay
                        refine⟨fun k hk => ?_,h12,fun h=>(by cases h),fun h=>(by cases h),fun _=>⟨hN,by rw[setCells_heap_size];exact hsz,fun j hj => ?_⟩⟩
                        · rw[hll]at hk
                          have hk2:k<((cs'.drop off).take (len * n)++new').length:=by rw[← hlr2.1,hll];exact hk
                          refine⟨((cs'.drop off).take (len * n)++new')[k]'hk2,?_,(hlr2.2 k (by rw[hll];exact hk) hk2).mono hle'⟩
                          have hl1:((cs'.drop off).take (len * n)).length=len * n:=by simp;omega
                          by_cases c:k<len * n
                          · rw[List.getElem_append_left (by omega)]
                            rw[World.cell?_setCells_out b0 new' (o+off+len * n) w ⟨b0,o+off+k,none⟩ (fun _ _=>by show o+off+k<o+off+len * n∨o+off+len * n+new'.length≤o+off+k;omega)]
                            have:=hr (off+k) cs'[off+k] (List.getElem?_eq_getElem _)
                            rw[show o+(off+k)=o+off+k by omega]at this
                            rw[this];simp
                          · rw[List.getElem_append_right (by omega)]
                            have:=World.cell?_setCells_in b0 new' (o+off+len * n) w hins (k - len * n) (by omega)
                            rw[show o+off+len * n+(k - len * n)=o+off+k by omega]at this
                            rw[this];simp only[hl1]
                        · rw[hll]at hj
                          have hsp2:spareOf 1 (cap+t0 - (len+m)) n=(cap+t0 - (len+m)) * n:=by simp[spareOf]
                          rw[hsp2,hsp]at hj
                          have hh3:=hth (off+j) (by rw[hspare];omega)
                          rw[show o+(off+j)=o+off+j by omega]at hh3
                          refine⟨?_,by rw[World.frozen?_setCells];exact hh3.2⟩
                          by_cases c:len * n≤j∧j<len * n+new'.length
                          · have:=World.cell?_setCells_in b0 new' (o+off+len * n) w hins (j - len * n) (by omega)
                            rw[show o+off+len * n+(j - len * n)=o+off+j by omega]at this
                            rw[this];rfl
                          · rw[World.cell?_setCells_out b0 new' (o+off+len * n) w ⟨b0,o+off+j,none⟩ (fun _ _=>by show o+off+j<o+off+len * n∨o+off+len * n+new'.length≤o+off+j;omega)]
                            exact hh3.1
                      · intro j b' k q1 q2
                        obtain⟨rfl,q3,q4⟩:=q1
                        rw[hll]at q4
                        have hsp2:spareOf 1 (cap+t0 - (len+m)) n=(cap+t0 - (len+m)) * n:=by simp[spareOf]
                        rw[hsp2,hsp]at q4
                        exact hfree j k q3 (by omega) q2
                  · cases h
                · cases h
              · cases h
          · cases h
      · cases h
    · cases h
 · cases h
theorem appendRow_push (e:TypeId)(base:Option Addr)(len cap:Nat)(x:Value):exAppendRow P e base len cap x H.n Heap.push H=exAppendRow P e base len cap x H.n (fun K o=>K.pushAt H.n o) H:=by
 unfold exAppendRow
 simp only[Heap.pushAt_n,Heap.pushAt_set_n]
theorem append_run {ts:List TypeId}{ty:TypeId}{s s' x x' v:Value}{H':Heap}(S:Sim N W0 L H w)(h:exAppend P ts s x H=some (v,H'))(hs:VR L s s')(hx:VR L x x') :
  ∃ L' w' v',(Builtin.append_ ⟨ts⟩ ty #[s',x']).run P w = .ok v' w'∧L.le L'∧Sim N W0 L' H' w'∧VR L' v v':=by
 unfold exAppend at h
 split at h
 · rename_i t t1 ts base len cap
   split at h
   · rename_i e k he hu1
     exact appendMake_run S he hu1 h hs hx
   · rename_i e d hnoint he hu1
     rw[appendRow_push]at h
     obtain⟨L',w',v',h1,h2,h3⟩:=appendRow_run S S.free he hu1 (fun k hk=>hnoint k (by rw[hk])) h hs hx
     exact⟨L',w',v',h1,h2.le,h3⟩
   · cases h
 · cases h
theorem appendAt_run {ts:List TypeId}{ty:TypeId}{s s' x x' v:Value}{H':Heap}(S:Sim N W0 L H w){r:Nat}(F:Free N L H r)(h:exAppendAt P ts s x r H=some (v,H'))(hs:VR L s s')(hx:VR L x x') :
  ∃ L' w' v',(Builtin.append_ ⟨ts⟩ ty #[s',x']).run P w = .ok v' w'∧LeAt r L L'∧Sim N W0 L' H' w'∧VR L' v v':=by
 unfold exAppendAt at h
 split at h
 · rename_i t t1 ts base len cap
   split at h
   · cases h
   · rename_i e d hnoint he hu1
     exact appendRow_run S F he hu1 (fun k hk=>hnoint k (by rw[hk])) h hs hx
   · cases h
 · cases h
end Go.Vm
namespace Go.Vm
open Go.RowKit
variable {P:Program} {N:Th} {W0:World} {L:Lay} {H:Heap} {w:World}
theorem Sim.map {id:Nat}{es:List (Value × Value)}(S:Sim N W0 L H w)(hg:H.get id = .map es):∃ b o t arr clock,L id=some (b,o,t)∧N.own b∧w.heap[b]? = some (.map arr clock)∧MapRel L es arr.toList:=by
 have hob:=S.obj id
 rw[hg]at hob
 cases hl:L id with
 | none=>rw[hl]at hob;exact hob.elim
 | some p =>
  obtain⟨b,o,t⟩:=p
  rw[hl]at hob
  obtain⟨h1,arr,clock,h2,h3⟩:=hob
  exact⟨b,o,t,arr,clock,rfl,h1,h2,h3⟩
theorem run_getObj_map {b:Nat}{arr:Array MapEntry}{clock:Nat}(h:w.heap[b]? = some (.map arr clock)):(getObj b).run P w = .ok (.map arr clock) w:=by
 simp[getObj,Sem.run,h]
theorem len_run {ts:List TypeId}{ty:TypeId}{x x' v:Value}(S:Sim N W0 L H w)(h:exLen P ts x H=some v)(hx:VR L x x') :
  (Builtin.len_ ⟨ts⟩ ty #[x']).run P w = .ok v w∧ground v=true:=by
 unfold exLen at h
 split at h
 · rename_i t ts
   split at h
   · rename_i s hu
     cases hx
     simp only[Option.some.injEq]at h;subst h
     exact⟨by simp[Builtin.len_,run_underlying hu,goInt],rfl⟩
   · rename_i n e hu
     simp only[Option.some.injEq]at h;subst h
     exact⟨by simp[Builtin.len_,run_underlying hu,goInt],rfl⟩
   · rename_i e a n c hu
     cases hx<;>(simp only[Option.some.injEq]at h;subst h;exact⟨by simp[Builtin.len_,run_underlying hu,goInt],rfl⟩)
   · rename_i k e hu
     cases hx
     simp only[Option.some.injEq]at h;subst h
     exact⟨by simp[Builtin.len_,run_underlying hu,goInt],rfl⟩
   · rename_i k e id hu
     split at h
     · rename_i es hg
       obtain⟨b,o,t',arr,clock,hl,_,hh,hm⟩:=S.map hg
       cases hx with
       | map _ b2 o2 t2 hl2 =>
        rw[hl]at hl2
        simp only[Option.some.injEq,Prod.mk.injEq]at hl2
        obtain⟨rfl,rfl,rfl⟩:=hl2
        simp only[Option.some.injEq]at h;subst h
        refine⟨?_,rfl⟩
        have:=hm.1
        simp[Builtin.len_,run_underlying hu,goInt,run_getObj_map hh,this]
     · cases h
   · cases h
 · cases h
theorem cap_run {ts:List TypeId}{ty:TypeId}{x x' v:Value}(S:Sim N W0 L H w)(h:exCap P ts x H=some v)(hx:VR L x x') :
  (Builtin.cap_ ⟨ts⟩ ty #[x']).run P w = .ok v w∧ground v=true:=by
 unfold exCap at h
 split at h
 · rename_i t ts
   split at h
   · rename_i e l c hu
     cases hx
     simp only[Option.some.injEq]at h;subst h
     exact⟨by simp[Builtin.cap_,run_underlying hu,goInt],rfl⟩
   · rename_i e id off l c hu
     split at h
     · rename_i own es cs hg
       obtain⟨b,o,t',cs',hl,_,_,_,_,ht,_⟩:=S.row hg
       have ht0:=ht rfl
       subst ht0
       cases hx with
       | slice _ _ _ _ b2 o2 t2 hl2 =>
        rw[hl]at hl2
        simp only[Option.some.injEq,Prod.mk.injEq]at hl2
        obtain⟨rfl,rfl,rfl⟩:=hl2
        simp only[Option.some.injEq]at h;subst h
        exact⟨by simp[Builtin.cap_,run_underlying hu,goInt],rfl⟩
     · cases h
   · cases h
 · cases h
theorem clear_run {ts:List TypeId}{ty:TypeId}{x x':Value}{H':Heap}(S:Sim N W0 L H w)(h:exClear P ts x H=some H')(hx:VR L x x') :
  ∃ w',(Builtin.clear_ ⟨ts⟩ ty #[x']).run P w = .ok (.tuple #[]) w'∧Sim N W0 L H' w':=by
 unfold exClear at h
 split at h
 · rename_i t ts
   split at h
   · cases h
   · rename_i e he
     have hu2:=elemT_und he
     split at h
     · cases hx
       simp only[Option.some.injEq]at h;subst h
       exact⟨w,by simp[Builtin.clear_,run_underlying hu2],S⟩
     · rename_i id off len c
       cases hx with
       | slice _ _ _ _ b0 o t0 hl =>
       split at h
       · rename_i h0
         subst h0
         simp only[Option.some.injEq]at h;subst h
         exact⟨w,by simp[Builtin.clear_,run_underlying hu2],S⟩
       · rename_i h0
         split at h
         · rename_i n z hn hz
           split at h
           · rename_i tl es cs hg
             split at h
             · rename_i hh
               obtain⟨h1,h2,h3⟩:=hh
               simp only[Option.some.injEq]at h;subst h
               obtain⟨b1,o1,t1',cs',hl',hr,hlr,hone,hone',ht',hown⟩:=S.row hg
               rw[hl]at hl'
               simp only[Option.some.injEq,Prod.mk.injEq]at hl'
               obtain⟨rfl,rfl,rfl⟩:=hl'
               obtain⟨hg',htz,hrz⟩:=run_zero hz
               obtain⟨hc,hc1⟩:=(ground_VR L z hg').cells htz
               have hzs:z.cells.size=n:=by simpa using h2
               have hzc:Builtin.zeroCells z.cells len=⟨repCells len z.cells.toList⟩:=range_rep _ z.cells (by omega)
               have hll:(repCells len z.cells.toList).length=len * n:=by rw[length_repCells,h2]
               have hst:=run_storeCells_cells (P:=P) b0 (o+off) (repCells len z.cells.toList) 0 w
                (fun j hj=>by have:=((hown rfl).2.2 (off+j) (by omega)).1;simpa [show o+(off+j)=o+off+j by omega] using this)
                (fun j hj=>by have:=((hown rfl).2.2 (off+j) (by omega)).2;simpa [show o+(off+j)=o+off+j by omega] using this)
                (fun u hu=>by obtain⟨i,hi,rfl⟩:=List.getElem_of_mem hu;exact (hc1.rep len) i hi)
               simp only[Nat.add_zero]at hst
               have S2:=S.write hg hl off (hc.rep len) (hc1.rep len) (by omega)
               refine⟨_,?_,S2⟩
               simp only[Builtin.clear_,List.getElem?_toArray,List.getElem?_cons_zero,Sem.run_bind,run_underlying hu2,Result.andThen_ok]
               cases len with
               | zero=>exact absurd rfl h0
               | succ len=>simp[hrz,hzc,hst]
             · cases h
           · cases h
         · cases h
     · cases h
 · cases h
theorem copy_run {ts:List TypeId}{ty:TypeId}{d d' x x' v:Value}{H':Heap}(S:Sim N W0 L H w)(h:exCopy P ts d x H=some (v,H'))(hd:VR L d d')(hx:VR L x x') :
  ∃ w',(Builtin.copy_ ⟨ts⟩ ty #[d',x']).run P w = .ok v w'∧Sim N W0 L H' w'∧ground v=true:=by
 unfold exCopy at h
 split at h
 · rename_i t ts base len cap
   split at h
   · rename_i e m he hm
     have hu2:=elemT_und he
     have hlen:=lenA_run (P:=P) hm hx w
     split at h
     · rename_i n hn
       split at h
       · rename_i new hc
         obtain⟨new',hnewd,hnlr,hn1⟩:=cellsOf_run (P:=P) S hc hx
         have hnew':=hnewd w rfl
         have hnl:=cellsOf_length hc
         split at h
         · cases hd
           split at h
           · rename_i h0
             subst h0
             simp only[Option.some.injEq,Prod.mk.injEq]at h
             obtain⟨rfl,rfl⟩:=h
             refine⟨w,?_,S,rfl⟩
             simp only[Nat.min_zero]at hnew'
             simp only[Builtin.copy_,List.getElem?_toArray,List.getElem?_cons_zero,List.getElem?_cons_succ,Sem.run_bind,run_underlying hu2,Result.andThen_ok,hlen,run_sizeOf hn]
             have:Nat.min m 0=0:=Nat.min_zero m
             rw[this]
             simp[hnew',goInt]
           · cases h
         · rename_i id off
           cases hd with
           | slice _ _ _ _ b0 o t0 hl =>
           split at h
           · rename_i tl es cs hg
             split at h
             · rename_i hle
               simp only[Option.some.injEq,Prod.mk.injEq]at h
               obtain⟨rfl,rfl⟩:=h
               obtain⟨b1,o1,t1',cs',hl',hr,hlr,hone,hone',ht',hown⟩:=S.row hg
               rw[hl]at hl'
               simp only[Option.some.injEq,Prod.mk.injEq]at hl'
               obtain⟨rfl,rfl,rfl⟩:=hl'
               have hn':=hnlr.1
               have hn1':=hnlr.one hn1
               have hst:=run_storeCells_cells (P:=P) b0 (o+off) new' 0 w
                (fun j hj=>by have:=((hown rfl).2.2 (off+j) (by omega)).1;simpa [show o+(off+j)=o+off+j by omega] using this)
                (fun j hj=>by have:=((hown rfl).2.2 (off+j) (by omega)).2;simpa [show o+(off+j)=o+off+j by omega] using this)
                (fun u hu=>by obtain⟨i,hi,rfl⟩:=List.getElem_of_mem hu;exact hn1' i hi)
               simp only[Nat.add_zero]at hst
               have S2:=S.write hg hl off hnlr hn1 (by omega)
               refine⟨_,?_,S2,rfl⟩
               simp only[Builtin.copy_,List.getElem?_toArray,List.getElem?_cons_zero,List.getElem?_cons_succ,Sem.run_bind,run_underlying hu2,Result.andThen_ok,hlen,run_sizeOf hn]
               have:Nat.min m len=min m len:=rfl
               rw[this]
               simp[hnew',hst,goInt]
             · cases h
           · cases h
         · cases h
       · cases h
     · cases h
   · cases h
 · cases h
end Go.Vm
namespace Go.Vm
open Go.RowKit
variable {P:Program} {N:Th} {W0:World} {L:Lay} {H:Heap} {w:World}
theorem keyKind_ground {t:TypeId}{k:Value}(h:keyKind P t k=true):ground k=true:=by
 unfold keyKind at h
 split at h<;>first | rfl | cases h
theorem checkKey_run {t:TypeId}{k:Value}(h:keyKind P t k=true)(e:Bool)(n:Nat)(w:World):(Instr.checkKey e (n+1) t k).run P w = .ok () w:=by
 unfold keyKind at h
 unfold Instr.checkKey
 split at h
 · rename_i j j' a hu;simp[run_underlying hu]
 · rename_i s hu;simp[run_underlying hu]
 · rename_i b hu;simp[run_underlying hu]
 · cases h
def mapAt (k:Value):List (Value × Value)→Nat→Option (Option (Nat × Value))
 | [],_=>some none
 | (q, v) :: es, i => match keyIs k q with
  | some true=>some (some (i,v))
  | some false=>mapAt k es (i+1)
  | none=>none
theorem sameNow_is {t:TypeId}{k q:Value}{r:Bool}(h:keyKind P t k=true)(hk:keyIs k q=some r):∃ d,P.underlying t=some d∧Instr.sameNow d k q=some r:=by
 unfold keyKind at h
 split at h
 · rename_i j j' a hu
   refine⟨_,hu,?_⟩
   cases q with
   | int j2 b =>
    simp only[keyIs]at hk
    split at hk
    · rename_i hj;subst hj;simp only[Option.some.injEq]at hk;simp[Instr.sameNow,hk]
    · cases hk
   | _=>simp[keyIs]at hk
 · rename_i s hu
   refine⟨_,hu,?_⟩
   cases q<;>simp[keyIs]at hk
   simp[Instr.sameNow,hk]
 · rename_i b hu
   refine⟨_,hu,?_⟩
   cases q<;>simp[keyIs]at hk
   simp[Instr.sameNow,hk]
 · cases h
theorem findNow_run {t:TypeId}{k:Value}(hk:keyKind P t k=true){d:TypeDesc}(hd:P.underlying t=some d):∀ (es:List (Value × Value))(l:List MapEntry)(i:Nat)(r:Option (Nat × Value)),
  mapAt k es i=some r→MapRel L es l→∃ r',Instr.findNow d k l i=some r'∧(r=none→r'=none)∧(∀ j v,r=some (j,v)→∃ v',r'=some (j,v')∧VR L v v'∧i≤j∧j - i<l.length∧∃ q,keyIs k q=some true∧(l[j - i]?).map (·.key)=some q)
 | [], l, i, r, h, hm => by
  simp only[mapAt,Option.some.injEq]at h;subst h
  have:l=[]:=by
   cases l with
   | nil=>rfl
   | cons _ _=>simp[MapRel]at hm
  subst this
  exact⟨none,rfl,fun _=>rfl,fun j v e=>by cases e⟩
 | (q, v) :: es, l, i, r, h, hm => by
  cases l with
  | nil=>simp[MapRel]at hm
  | cons e l =>
   have h0:=hm.2 0 (by simp) (by simp)
   simp only[List.getElem_cons_zero]at h0
   obtain⟨e1,e2,e3⟩:=h0
   have hm':MapRel L es l:=⟨by have:=hm.1;simpa using this,fun j h1 h2=>by have:=hm.2 (j+1) (by simpa using h1) (by simpa using h2);simpa using this⟩
   simp only[mapAt]at h
   cases hq:keyIs k q with
   | none=>simp[hq]at h
   | some b =>
    obtain⟨d',hd',hs⟩:=sameNow_is hk hq
    rw[hd]at hd'
    simp only[Option.some.injEq]at hd'
    subst hd'
    cases b with
    | true =>
     simp only[hq,Option.some.injEq]at h;subst h
     refine⟨some (i,e.val),by simp[Instr.findNow,e1,hs],(fun h=>by cases h),fun j u hh => ?_⟩
     simp only[Option.some.injEq,Prod.mk.injEq]at hh
     obtain⟨rfl,rfl⟩:=hh
     exact⟨e.val,rfl,e3,Nat.le_refl _,by simp,q,hq,by simp[e1]⟩
    | false =>
     simp only[hq]at h
     obtain⟨r',f1,f2,f3⟩:=findNow_run hk hd es l (i+1) r h hm'
     refine⟨r',by simp[Instr.findNow,e1,hs,f1],f2,fun j u hh => ?_⟩
     obtain⟨v',g1,g2,g3,g4,q',g5,g6⟩:=f3 j u hh
     refine⟨v',g1,g2,by omega,by simp;omega,q',g5,?_⟩
     rw[show j - i=(j - (i+1))+1 by omega];simpa using g6
theorem mapFind_at {k:Value}:∀ (es:List (Value × Value))(i:Nat),(mapFind k es)=(mapAt k es i).map fun r=>r.map (·.2)
 | [],i=>rfl
 | (q, v) :: es, i => by
  simp only[mapFind,mapAt]
  cases keyIs k q with
  | none=>rfl
  | some b => cases b with
   | true=>rfl
   | false=>exact mapFind_at es (i+1)
theorem findKey_run {t:TypeId}{k:Value}(hk:keyKind P t k=true){es:List (Value × Value)}{l:List MapEntry}{r:Option (Nat × Value)}(h:mapAt k es 0=some r)(hm:MapRel L es l)(w:World) :
  ∃ r',(Instr.findKey t k l).run P w = .ok r' w∧(r=none→r'=none)∧(∀ j v,r=some (j,v)→∃ v',r'=some (j,v')∧VR L v v'∧j<l.length∧∃ q,keyIs k q=some true∧(l[j]?).map (·.key)=some q):=by
 have hd:∃ d,P.underlying t=some d:=by
  unfold keyKind at hk
  cases hu:P.underlying t with
  | none=>simp[hu]at hk
  | some d=>exact⟨d,rfl⟩
 obtain⟨d,hd⟩:=hd
 obtain⟨r',h1,h2,h3⟩:=findNow_run hk hd es l 0 r h hm
 refine⟨r',?_,h2,fun j v e => ?_⟩
 · simp[Instr.findKey,run_underlying hd,h1]
 · obtain⟨v',g1,g2,_,g4,q,g5,g6⟩:=h3 j v e
   exact⟨v',g1,g2,by simpa using g4,q,g5,by simpa using g6⟩
def lookTail (kt et:TypeId)(k:Value)(ok:Bool)(arr:Array MapEntry):Sem Value:=do
 Instr.checkKey arr.isEmpty 10000 kt k
 let (v,found) ← match ← Instr.findKey kt k arr.toList with
  | some (_,v)=>pure (v,true)
  | none=>pure (← zeroValue et,false)
 pure (if ok then .tuple #[v,.bool found]else v)
theorem lookTail_run {kt et:TypeId}{k v:Value}{ok:Bool}{es:List (Value × Value)}{arr:Array MapEntry}(hkk:keyKind P kt k=true)(hrel:MapRel L es arr.toList)
  (hv:(match mapFind k es with | some (some v)=>some (if ok then Value.tuple #[v,.bool true]else v) | some none=>(zeroT P et).map fun z=>if ok then .tuple #[z,.bool false]else z | none=>none)=some v) (w:World) :
  ∃ v',(lookTail kt et k ok arr).run P w = .ok v' w∧VR L v v':=by
 rw[mapFind_at es 0]at hv
 cases hat:mapAt k es 0 with
 | none=>simp[hat]at hv
 | some r =>
  obtain⟨r',f1,f2,f3⟩:=findKey_run hkk hat hrel w
  have hck:=checkKey_run hkk arr.isEmpty 9999 w
  cases r with
  | none =>
   have:=f2 rfl
   subst this
   simp only[hat,Option.map_some,Option.map_none,Option.map_eq_some_iff]at hv
   obtain⟨z,hz,rfl⟩:=hv
   obtain⟨hg,ht,hr⟩:=run_zero hz
   refine⟨if ok then .tuple #[z,.bool false]else z,?_,?_⟩
   · simp only[lookTail,Sem.run_bind,hck,Result.andThen_ok,f1,hr,Sem.run_pure]
   · cases ok with
     | true=>exact .tuple [z,.bool false] [z,.bool false] rfl ((LR.nil L).cons (.bool false) |>.cons (ground_VR L z hg)).2
     | false=>exact ground_VR L z hg
  | some p =>
   obtain⟨j,u⟩:=p
   obtain⟨u',g1,g2,_⟩:=f3 j u rfl
   subst g1
   simp only[hat,Option.map_some,Option.some.injEq]at hv
   subst hv
   refine⟨if ok then .tuple #[u',.bool true]else u',?_,?_⟩
   · simp only[lookTail,Sem.run_bind,hck,Result.andThen_ok,f1,Sem.run_pure]
   · cases ok with
     | true=>exact .tuple [u,.bool true] [u',.bool true] rfl ((LR.nil L).cons (.bool true) |>.cons g2).2
     | false=>exact g2
theorem lookup_run {t:TypeId}{m m' k k' v:Value}{ok:Bool}(S:Sim N W0 L H w)(h:exLookup P t m k ok H=some v)(hm:VR L m m')(hk:VR L k k') :
  ∃ v',(Instr.lookup t m' k' ok).run P w = .ok v' w∧VR L v v':=by
 unfold exLookup at h
 split at h
 · rename_i kt et hu
   split at h
   · cases h
   · rename_i hkk
     have:=hk.ground_eq (keyKind_ground hkk)
     subst this
     cases m with
     | map r =>
      cases r with
      | none =>
       cases hm
       obtain⟨v',e1,e2⟩:=lookTail_run (L:=L) (et:=et) (ok:=ok) (es:=[]) (arr := #[]) (v:=v) hkk ⟨rfl,fun i h=>by simp at h⟩ (by simpa [mapFind] using h) w
       refine⟨v',?_,e2⟩
       rw[← e1]
       simp only[Instr.lookup,lookTail,Sem.run_bind,run_underlying hu,Result.andThen_ok,Sem.run_pure]
       rfl
      | some id =>
       cases hm with
       | map _ b o t' hl =>
        simp only at h
        cases hg:H.get id with
        | map es =>
         simp only[hg]at h
         obtain⟨b2,o2,t2,arr,clock,hl2,_,hh,hrel⟩:=S.map hg
         rw[hl]at hl2
         simp only[Option.some.injEq,Prod.mk.injEq]at hl2
         obtain⟨rfl,rfl,rfl⟩:=hl2
         obtain⟨v',e1,e2⟩:=lookTail_run (L:=L) (et:=et) (ok:=ok) (v:=v) hkk hrel h w
         refine⟨v',?_,e2⟩
         rw[← e1]
         simp only[Instr.lookup,lookTail,Sem.run_bind,run_underlying hu,Result.andThen_ok,Sem.run_pure,run_getObj_map hh]
         rfl
        | _=>simp[hg]at h
     | _=>simp at h
 · cases h
theorem run_setObj_map {b:Nat}{arr:Array MapEntry}{clock:Nat}(h:w.heap[b]? = some (.map arr clock))(o:Obj):(setObj b o).run P w = .ok () { w with heap:=w.heap.setIfInBounds b o }:=by
 simp[setObj,Sem.run,h]
theorem Sim.map_write {id:Nat}{es es':List (Value × Value)}{b o t:Nat}{arr arr':Array MapEntry}{clock clock':Nat}(S:Sim N W0 L H w)(hg:H.get id = .map es)(hl:L id=some (b,o,t))
  (hh:w.heap[b]? = some (.map arr clock)) (hm:MapRel L es' arr'.toList):Sim N W0 L (H.set id (.map es')) { w with heap:=w.heap.setIfInBounds b (.map arr' clock') }:=by
 have hid:id<H.n:=Heap.lt_of_get hg (by simp)
 have hob:=S.obj id
 rw[hg,hl]at hob
 have hN:=hob.1
 have hlt:b<w.heap.size:=by obtain⟨hb,_⟩:=Array.getElem?_eq_some_iff.1 hh;exact hb
 have other:∀ k,k≠b→(w.heap.setIfInBounds b (.map arr' clock'))[k]? = w.heap[k]? := fun k hk=>by
  rw[Array.getElem?_setIfInBounds];rw[if_neg (by omega)]
 refine⟨⟨S.below.os,S.below.tape,S.below.output,by simpa using S.below.size,fun k hk => ?_⟩,by simpa using S.base,fun k o' hg2 => ?_,S.void,S.fresh,fun j => ?_,fun i j b' k hij h2 h3 => ?_,fun id' k o' t' hl' hk => ?_⟩
 · show (w.heap.setIfInBounds b (.map arr' clock'))[k]? = _
   rw[other k (by have:=hN.1;omega)];exact S.below.block k hk
 · show (w.heap.setIfInBounds b (.map arr' clock'))[k]? = _
   rw[other k (fun e=>by rw[e,hN.2]at hg2;cases hg2)];exact S.ghost k o' hg2
 · rw[Heap.get_set _ _ _ hid]
   by_cases c:j=id
   · rw[if_pos c];subst c;rw[hl]
     exact⟨hN,arr',clock',by simp[hlt],hm⟩
   · rw[if_neg c]
     have hoj:=S.obj j
     have hap:∀ k,¬Owns (H.get j) (L j) b k:=fun k hk=>S.apart j id b k c hk (by rw[hg,hl];rfl)
     cases ho:H.get j with
     | dead=>trivial
     | row own tl es2 cs =>
      rw[ho]at hoj
      cases hlj:L j with
      | none=>rw[hlj]at hoj;exact hoj.elim
      | some p =>
       obtain⟨b2,o2,t2⟩:=p
       rw[hlj]at hoj
       obtain⟨k1,k2,k3,k4,k5⟩:=hoj
       have hcell:∀ k v,w.cell? ⟨b2,k,none⟩=some v→({ w with heap:=w.heap.setIfInBounds b (.map arr' clock') }:World).cell? ⟨b2,k,none⟩=some v:=fun k v hv=>by
        have hne:b2≠b:=fun e=>by subst e;simp[World.cell?,hh]at hv
        rw[World.cell?_of_block (w:=w) (other b2 hne)];exact hv
       refine⟨fun k hk => ?_,k2,k3,k4,fun ho=>⟨(k5 ho).1,by simpa using (k5 ho).2.1,fun k hk => ?_⟩⟩
       · obtain⟨v',e,r⟩:=k1 k hk
         exact⟨v',hcell _ _ e,r⟩
       · obtain⟨e1,e2⟩:=(k5 ho).2.2 k hk
         obtain⟨v,e⟩:=Option.isSome_iff_exists.1 e1
         refine⟨by rw[hcell _ _ e];rfl,?_⟩
         have hne:b2≠b:=fun e'=>by subst e';simp[World.cell?,hh]at e
         rw[World.frozen?_of_block (w:=w) (other b2 hne)];exact e2
     | map es2 =>
      rw[ho]at hoj hap
      cases hlj:L j with
      | none=>rw[hlj]at hoj;exact hoj.elim
      | some p =>
       obtain⟨b2,o2,t2⟩:=p
       rw[hlj]at hoj hap
       have hne:b2≠b:=fun e=>hap 0 e.symm
       obtain⟨k1,a2,c2,k2,k3⟩:=hoj
       refine⟨k1,a2,c2,?_,k3⟩
       show (w.heap.setIfInBounds b (.map arr' clock'))[b2]? = _
       rw[other b2 hne];exact k2
     | siter s pos =>
      rw[ho]at hoj hap
      cases hlj:L j with
      | none=>rw[hlj]at hoj;exact hoj.elim
      | some p =>
       obtain⟨b2,o2,t2⟩:=p
       rw[hlj]at hoj hap
       have hne:b2≠b:=fun e=>hap 0 e.symm
       obtain⟨k1,k2,k3⟩:=hoj
       refine⟨k1,k2,?_⟩
       show (w.heap.setIfInBounds b (.map arr' clock'))[b2]? = _
       rw[other b2 hne];exact k3
     | unit e =>
      rw[ho]at hoj
      cases hlj:L j with
      | none=>rw[hlj]at hoj;exact hoj.elim
      | some p =>
       obtain⟨b2,o2,t2⟩:=p
       rw[hlj]at hoj
       obtain⟨k1,k2,c,fr,k3⟩:=hoj
       have hne:b2≠b:=fun e=>by subst e;rw[hh]at k3;cases k3
       refine⟨k1,k2,c,fr,?_⟩
       show (w.heap.setIfInBounds b (.map arr' clock'))[b2]? = _
       rw[other b2 hne];exact k3
 · have ho:∀ i',Owns ((H.set id (.map es')).get i') (L i') b' k→Owns (H.get i') (L i') b' k:=by
    intro i' hh
    rw[Heap.get_set _ _ _ hid]at hh
    split at hh
    · rename_i e;subst e;rw[hg];rw[hl]at hh ⊢;exact hh
    · exact hh
   exact S.apart i j b' k hij (ho i h2) (ho j h3)
 · show ∃ ob,(w.heap.setIfInBounds b (.map arr' clock'))[k]? = some ob∧calmObj ob
   by_cases e:k=b
   · subst e
     exact⟨.map arr' clock',by rw[Array.getElem?_setIfInBounds,if_pos rfl,if_pos hlt],trivial⟩
   · rw[other k e]
     exact S.calm id' k o' t' hl' hk
theorem ba_eq {a b:ByteArray}(h:(a == b)=true):a=b:=by
 cases a;cases b
 have:(ByteArray.beq _ _)=true:=h
 simpa [ByteArray.beq] using this
theorem ba_refl (a:ByteArray):(a == a)=true:=by
 cases a
 show ByteArray.beq _ _=true
 simp[ByteArray.beq]
theorem keyIs_same {k q:Value}(h:keyIs k q=some true):q=k:=by
 cases k<;>cases q<;>simp[keyIs]at h
 · exact congrArg _ h.symm
 · obtain⟨rfl,rfl⟩:=h;rfl
 · exact congrArg _ (ba_eq h).symm
theorem mapPut_rel {k v v':Value}(hk:ground k=true)(hv:VR L v v'):∀ (es r:List (Value × Value))(l:List MapEntry)(i:Nat)(c:Nat),mapPut k v es=some r→MapRel L es l →
  (mapAt k es i=some none∧MapRel L r (l++[{ key:=k,val:=v',born:=c }])) ∨
  (∃ j u,mapAt k es i=some (some (j,u))∧i≤j∧j - i<l.length∧MapRel L r (l.modify (j - i) fun e=>{ e with key:=k,val:=v' }))
 | [], r, l, i, c, h, hm => by
  simp only[mapPut,Option.some.injEq]at h;subst h
  have:l=[]:=by
   cases l with
   | nil=>rfl
   | cons _ _=>simp[MapRel]at hm
  subst this
  refine .inl ⟨rfl,by simp,fun j h1 h2 => ?_⟩
  have:j=0:=by simpa using h1
  subst this
  exact⟨rfl,hk,hv⟩
 | (q, u) :: es, r, l, i, c, h, hm => by
  cases l with
  | nil=>simp[MapRel]at hm
  | cons e l =>
   have h0:=hm.2 0 (by simp) (by simp)
   simp only[List.getElem_cons_zero]at h0
   obtain⟨e1,e2,e3⟩:=h0
   have hm':MapRel L es l:=⟨by have:=hm.1;simpa using this,fun j h1 h2=>by have:=hm.2 (j+1) (by simpa using h1) (by simpa using h2);simpa using this⟩
   simp only[mapPut]at h
   cases hq:keyIs k q with
   | none=>simp[hq]at h
   | some b =>
    cases b with
    | true =>
     simp only[hq,Option.some.injEq]at h;subst h
     refine .inr ⟨i,u,by simp[mapAt,hq],Nat.le_refl _,by simp,?_⟩
     simp only[Nat.sub_self]
     refine⟨by have:=hm.1;simpa using this,fun j h1 h2 => ?_⟩
     cases j with
     | zero=>exact⟨rfl,hk,hv⟩
     | succ j=>exact hm'.2 j (by simpa using h1) (by simpa using h2)
    | false =>
     simp only[hq,Option.map_eq_some_iff]at h
     obtain⟨r',h,rfl⟩:=h
     have consrel:∀ {r':List (Value × Value)} {l':List MapEntry},MapRel L r' l'→MapRel L ((q,u) :: r') (e :: l'):=fun hr =>
      ⟨by have:=hr.1;simp[this],fun j h1 h2=>by
       cases j with
       | zero=>exact⟨e1,e2,e3⟩
       | succ j=>exact hr.2 j (by simpa using h1) (by simpa using h2)⟩
     rcases mapPut_rel hk hv es r' l (i+1) c h hm' with⟨f1,f2⟩ | ⟨j,x,f1,f2,f3,f4⟩
     · exact .inl ⟨by simp[mapAt,hq,f1],consrel f2⟩
     · refine .inr ⟨j,x,by simp[mapAt,hq,f1],by omega,by simp;omega,?_⟩
       rw[show j - i=(j - (i+1))+1 by omega]
       simp only[List.modify_succ_cons]
       exact consrel f4
theorem mapPut_run {t:TypeId}{m m' k k' v v':Value}{H':Heap}(S:Sim N W0 L H w)(h:exMapPut P t m k v H=some H')(hm:VR L m m')(hk:VR L k k')(hv:VR L v v') :
  ∃ w',(Instr.mapUpdate t m' k' v').run P w = .ok () w'∧Sim N W0 L H' w':=by
 unfold exMapPut at h
 split at h
 · rename_i kt et id hu
   split at h
   · rename_i hkk
     have:=hk.ground_eq (keyKind_ground hkk)
     subst this
     cases hm with
     | map _ b o t' hl =>
      cases hg:H.get id with
      | map es =>
       simp only[hg,Option.map_eq_some_iff]at h
       obtain⟨r,h,rfl⟩:=h
       obtain⟨b2,o2,t2,arr,clock,hl2,_,hh,hrel⟩:=S.map hg
       rw[hl]at hl2
       simp only[Option.some.injEq,Prod.mk.injEq]at hl2
       obtain⟨rfl,rfl,rfl⟩:=hl2
       have hck:=checkKey_run hkk false 9999 w
       rcases mapPut_rel (keyKind_ground hkk) hv es r arr.toList 0 clock h hrel with⟨f1,f2⟩ | ⟨j,x,f1,f2,f3,f4⟩
       · obtain⟨r',g1,g2,_⟩:=findKey_run hkk f1 hrel w
         have:=g2 rfl
         subst this
         refine⟨_,?_,S.map_write hg hl hh (arr':=arr.push { key:=k',val:=v',born:=clock }) (clock':=clock+1) (by simpa using f2)⟩
         simp only[Instr.mapUpdate,Sem.run_bind,run_underlying hu,Result.andThen_ok,run_getObj_map hh,hck,g1,run_setObj_map hh]
       · obtain⟨r',g1,_,g3⟩:=findKey_run hkk f1 hrel w
         obtain⟨v2,q1,q2,q3,q,q4,q5⟩:=g3 j x rfl
         subst q1
         have hq:=keyIs_same q4
         subst hq
         have hstays:(Instr.keyThatStays (((arr[j]?).map (·.key)).getD q) q).run P w = .ok q w:=by
          have:(arr[j]?).map (·.key)=some q:=by rw[← q5];simp
          rw[this]
          have hsb:Instr.sameBits 10000 q q=true:=by
           cases q<;>simp[keyIs]at q4<;>first | exact ba_refl _ | simp[Instr.sameBits]
          simp[Instr.keyThatStays,hsb]
         refine⟨_,?_,S.map_write hg hl hh (arr':=arr.modify j fun e=>{ e with key:=q,val:=v' }) (clock':=clock) (by simpa using f4)⟩
         simp only[Instr.mapUpdate,Sem.run_bind,run_underlying hu,Result.andThen_ok,run_getObj_map hh,hck,g1,hstays,run_setObj_map hh]
      | _=>simp[hg]at h
   · cases h
 · cases h
end Go.Vm
namespace Go.Vm
open Go.RowKit
variable {P:Program} {N:Th} {W0:World} {L:Lay} {H:Heap} {w:World}
theorem eqNil_run {t:TypeId}{a a' b b':Value}{r:Bool}(h:eqNil P t a b=some r)(ha:VR L a a')(hb:VR L b b')(w:World):(Op.equal t a' b').run P w = .ok r w:=by
 unfold eqNil at h
 split at h
 case h_3 =>
  split at h
  · rename_i hu hb2
    split at h
    · rename_i hn
      simp only[Option.some.injEq]at h
      subst h
      have hb2:=Nat.eq_of_beq_eq_true hb2
      subst hb2
      cases ha with
      | ptr _ _ b1 o1 t1 hl1 =>
       cases hb with
       | ptr _ _ b2 o2 t2 hl2 =>
        rw[hl1]at hl2
        cases hl2
        show (Op.equalIn (9999+1) t _ _).run P w=_
        unfold Op.equalIn
        simp only[Sem.run_bind,run_underlying hu,Result.andThen_ok,run_sizeOf hn]
        rw[if_pos (by simp)]
        unfold sameAddr
        simp
        rw[Bool.eq_iff_iff]
        simp
    · cases h
  · cases h
 all_goals first | cases h | (split at h<;>first | cases h | skip)
 all_goals rename_i hu
 all_goals (cases ha;cases hb)
 all_goals (show (Op.equalIn (9999+1) t _ _).run P w=_;unfold Op.equalIn;simp only[Sem.run_bind,run_underlying hu,Result.andThen_ok];rfl)
theorem bin_run {op:BinOp}{t:TypeId}{x y:Operand}{a a' b b' v:Value}(h:exBin P op t x y a b=some v)(ha:VR L a a')(hb:VR L b b')(w:World) :
  (do eqGuard op t x y a' b';binOp op t a' b':Sem Value).run P w = .ok v w∧ground v=true:=by
 unfold exBin at h
 split at h
 · rename_i hg
   simp only[Bool.and_eq_true]at hg
   rw[ha.ground_eq hg.1,hb.ground_eq hg.2]
   obtain⟨h1,h2⟩:=ifGround_some h
   exact⟨pureRun_run P _ _ h1 w,h2⟩
 · rename_i hg
   have hguard:∀ op,(∃ r,eqNil P t a b=some r)→(eqGuard op t x y a' b')=pure ():=by
    intro op ⟨r,hr⟩
    unfold eqNil at hr
    split at hr<;>(cases ha;cases hb)<;>first | (cases op<;>rfl) | cases hr
   cases op with
   | eql =>
    simp only[Option.map_eq_some_iff]at h
    obtain⟨r,hr,rfl⟩:=h
    refine⟨?_,rfl⟩
    rw[hguard _ ⟨r,hr⟩]
    have:=eqNil_run hr ha hb w
    have hbin:binOp .eql t a' b'=(do pure (.bool (← Op.equal t a' b')):Sem Value):=by
     unfold eqNil at hr
     split at hr<;>(cases ha;cases hb)<;>first | rfl | cases hr
    simp[hbin,this]
   | neq =>
    simp only[Option.map_eq_some_iff]at h
    obtain⟨r,hr,rfl⟩:=h
    refine⟨?_,rfl⟩
    rw[hguard _ ⟨r,hr⟩]
    have:=eqNil_run hr ha hb w
    have hbin:binOp .neq t a' b'=(do pure (.bool (!(← Op.equal t a' b'))):Sem Value):=by
     unfold eqNil at hr
     split at hr<;>(cases ha;cases hb)<;>first | rfl | cases hr
    simp[hbin,this]
   | _=>simp at h
theorem byteList_run:∀ {cs:List Value}{l:List UInt8},byteList cs=some l→∀ (acc:ByteArray)(w:World),
  (forIn (m:=Sem) cs acc fun c r =>
    match c with
    | .int .u8 n=>pure (ForInStep.yield (r.push (UInt8.ofNat n.toNat)))
    | _ => do
     (stuck "bytesToString: byte expected" : Sem PUnit)
     pure (ForInStep.yield r)).run P w = .ok ⟨acc.data++l.toArray⟩ w
 | [], l, h, acc, w => by
  simp only[byteList,Option.some.injEq]at h;subst h
  simp
 | c :: cs, l, h, acc, w => by
  cases c with
  | int k n =>
   cases k with
   | u8 =>
    simp only[byteList,Option.map_eq_some_iff]at h
    obtain⟨l',h,rfl⟩:=h
    have ih:=byteList_run h (acc.push (UInt8.ofNat n.toNat)) w
    simp only[List.forIn_cons,pure_bind]
    rw[ih]
    congr 1
    apply ByteArray.ext
    simp[ByteArray.push]
   | _=>simp[byteList]at h
  | _=>simp[byteList]at h
end Go.Vm
namespace Go.Vm
open Go.RowKit
variable {P:Program} {N:Th} {W0:World} {L:Lay} {H:Heap} {w:World}
theorem alloc_heap_new (w:World)(o:Obj):(w.alloc o).heap[w.heap.size]? = some o:=by
 show (w.heap.push o)[w.heap.size]? = _
 simp
theorem Sim.new_row_frozen (S:Sim N W0 L H w)(c:Array Value)(e:TypeId)(fr:Nat × Nat)(hfr:c.size≤fr.1)(tl es t:Nat)(cs:List Value)
  (hc:∀ k (h:k<cs.length),∃ v',c[k]? = some v'∧VR L cs[k] v') (h1:One cs) (hs:cs.length+spareOf tl t es≤c.size) (ht:tl=0→t=0) :
  Sim N W0 (upd L H.n (w.heap.size,0,t)) (H.push (.row true tl es cs)) (w.alloc (.cells c e fr)):=by
 have S':=S.alloc (.cells c e fr) (.inr hfr)
 have hl:=upd_le (x:=(w.heap.size,0,t)) (S.fresh _ (Nat.le_refl _))
 have hcell:∀ k,(w.alloc (.cells c e fr)).cell? ⟨w.heap.size,k,none⟩=c[k]? := fun k=>by
  simp only[World.cell?,alloc_heap_new];rfl
 have hfz:∀ k,k<c.size→(w.alloc (.cells c e fr)).frozen? ⟨w.heap.size,k,none⟩=false:=fun k hk=>by
  simp only[World.frozen?,alloc_heap_new]
  have:¬fr.1≤k:=by omega
  simp[this]
 refine S'.put _ _ ⟨fun k hk => ?_,h1,ht,fun h=>(by cases h),fun _=>⟨S.new,by show w.heap.size<(w.heap.push _).size;simp,fun j hj => ?_⟩⟩ ?_ (fun _=>⟨_,heap_new w _,.inr hfr⟩)
 · obtain⟨v',e1,r⟩:=hc k hk
   exact⟨v',by rw[Nat.zero_add,hcell];exact e1,r.mono hl⟩
 · rw[Nat.zero_add,hcell,hfz _ (by omega)]
   refine⟨?_,rfl⟩
   rw[Array.getElem?_eq_getElem (by omega)];rfl
 · intro j b k h2 h3
   have:=(Owns.lt (S.obj j) h3).2
   have:b=w.heap.size:=h2.1
   omega
theorem freeze_new (w:World)(c:Array Value)(e:TypeId)(n:Nat):(w.alloc (.cells c e)).freeze ⟨w.heap.size,n,none⟩ 1=w.alloc (.cells c e (n,n+1)):=by
 simp only[World.freeze,World.alloc]
 rw[if_neg (by omega)]
 congr 1
 apply Array.ext_getElem?
 intro i
 rw[Array.getElem?_modify]
 by_cases h:w.heap.size=i
 · subst h;simp
 · rw[if_neg h]
   simp only[Array.getElem?_push]
   rw[if_neg (fun e=>h e.symm),if_neg (fun e=>h e.symm)]
theorem stringToBytes_run (S:Sim N W0 L H w)(e:TypeId)(s:ByteArray) :
  ∃ L' w' v',(Conv.stringToBytes e s).run P w = .ok v' w'∧L.le L'∧Sim N W0 L' (H.push (.row true 1 1 (bytesOf s))) w'∧VR L' (.slice (some ⟨H.n,0,none⟩) s.size s.size) v':=by
 obtain⟨c,hc,hrun⟩:=choose_cap (P:=P) s.size 0 e w
 have hbl:(bytesOf s).length=s.size:=by
  have:s.data.toList.length=s.size:=rfl
  simp[bytesOf,this]
 have hcsz:((s.data.map fun (b:UInt8)=>Value.int .u8 (b.toNat:Int))++Array.replicate (c - s.size) (Value.int .u8 0)).size=c:=by
  have:s.data.size=s.size:=rfl
  simp[this];omega
 refine⟨upd L H.n (w.drew.heap.size,0,c - s.size),w.drew.alloc (.cells ((s.data.map fun b=>Value.int .u8 b.toNat)++Array.replicate (c - s.size) (.int .u8 0)) e (c,c+1)),.slice (some ⟨w.heap.size,0,none⟩) s.size c,?_,
  upd_le (S.fresh _ (Nat.le_refl _)),?_,?_⟩
 · have hf:=freeze_new w.drew ((s.data.map fun b=>Value.int .u8 b.toNat)++Array.replicate (c - s.size) (.int .u8 0)) e c
   have hsh:(w.drew.alloc (.cells ((s.data.map fun b=>Value.int .u8 b.toNat)++Array.replicate (c - s.size) (.int .u8 0)) e)).shape? w.heap.size=some (e,c):=by
    have:=alloc_heap_new w.drew (.cells ((s.data.map fun b=>Value.int .u8 b.toNat)++Array.replicate (c - s.size) (.int .u8 0)) e)
    simp only[World.shape?]
    have h2:w.drew.heap.size=w.heap.size:=rfl
    rw[h2]at this
    rw[this];simp only[hcsz]
   simp only[Conv.stringToBytes,Sem.run_bind,hrun,Result.andThen_ok,newRow,run_newObj,Sem.run_pure,World.alloc_eq]
   have h2:w.drew.heap.size=w.heap.size:=rfl
   simp only[markStringish,Sem.run_bind,run_shape,Result.andThen_ok,h2,hsh]
   simp only[run_freeze,Result.andThen_ok,Sem.run_pure]
   rw[h2]at hf
   rw[hf]
 · refine S.drew.new_row_frozen _ e (c,c+1) (by simp[hcsz]) 1 1 (c - s.size) (bytesOf s) (fun k hk => ?_) ?_ ?_ (fun h=>by cases h)
   · refine⟨(bytesOf s)[k],?_,ground_VR L _ (by simp[bytesOf,ground])⟩
     rw[cells_getElem?]
     have hk2:k<s.data.toList.length:=by rw[hbl]at hk;exact hk
     simp only[Array.toList_append,Array.toList_map]
     rw[List.getElem?_append_left (by simpa using hk2)]
     simp only[bytesOf]
     exact List.getElem?_eq_getElem _
   · intro i hi;simp[bytesOf,Value.oneCell']
   · simp only[spareOf,if_true,hbl,hcsz];omega
 · have:=VR.slice (L:=upd L H.n (w.drew.heap.size,0,c - s.size)) H.n 0 s.size s.size _ _ _ (upd_same _ _ _)
   rw[show s.size+(c - s.size)=c by omega]at this
   simpa using this
theorem bytesToString_run {a:Option Addr}{len c:Nat}{x':Value}{cs:List Value}{l:List UInt8}(S:Sim N W0 L H w)(h:cellsOf H 1 len (.slice a len c)=some cs)(hb:byteList cs=some l)(hx:VR L (.slice a len c) x') :
  (Conv.bytesToString x').run P w = .ok (.string ⟨⟨l⟩⟩) w:=by
 obtain⟨cs',hrun,hlr,h1⟩:=cellsOf_run (P:=P) S h hx
 have hg:∀ (cs:List Value) (l:List UInt8),byteList cs=some l→groundL cs=true:=by
  intro cs
  induction cs with
  | nil=>intro l _;rfl
  | cons v vs ih =>
   intro l h
   cases v with
   | int k n =>
    cases k with
    | u8 =>
     simp only[byteList,Option.map_eq_some_iff]at h
     obtain⟨l',h,rfl⟩:=h
     simp[groundL,ground,ih l' h]
    | _=>simp[byteList]at h
   | _=>simp[byteList]at h
 have:=hlr.ground_eq (hg cs l hb)
 subst this
 have hr:=hrun w rfl
 cases hx with
 | snil =>
  simp only[cellsOf]at h
  split at h
  · simp only[Option.some.injEq]at h;subst h
    simp only[byteList,Option.some.injEq]at hb;subst hb
    rfl
  · cases h
 | slice id off _ _ b o t hl =>
  have hload:(loadCells ⟨b,o+off,none⟩ len).run P w = .ok ⟨cs'⟩ w:=by
   simpa [Builtin.firstCells] using hr
  have hfor:=byteList_run (P:=P) hb ByteArray.empty w
  simp only[Conv.bytesToString,Sem.run_bind,hload,Result.andThen_ok]
  simp only[List.forIn_toArray]
  refine Eq.trans (congrArg (fun r=>Result.andThen r (fun a w'=>Sem.run P (pure (Value.string a)) w')) hfor) ?_
  simp
theorem Sim.freeze (S:Sim N W0 L H w){b n:Nat}{c:Array Value}{e:TypeId}{fr:Nat × Nat}{id o t:Nat}(hl:L id=some (b,o,t))(hN:N.own b)(hb:w.heap[b]? = some (.cells c e fr))(hn:n=c.size):Sim N W0 L H (w.freeze ⟨b,n,none⟩ 1):=by
 have hh:(w.freeze ⟨b,n,none⟩ 1).heap=w.heap.modify b fun
   | .cells c elem (lo,hi) => .cells c elem (if lo == hi then (n,n+1)else (min lo n,max hi (n+1)))
   | o=>o:=by
  unfold World.freeze
  rw[if_neg (by omega)]
  rfl
 have hlt:b<w.heap.size:=(Array.getElem?_eq_some_iff.1 hb).1
 have other:∀ k,k≠b→(w.freeze ⟨b,n,none⟩ 1).heap[k]? = w.heap[k]? := fun k hk=>by
  rw[hh,Array.getElem?_modify,if_neg (fun e=>hk e.symm)]
 have hcalm:calmObj (.cells c e fr):=by
  obtain⟨ob,h1,h2⟩:=S.calm id b o t hl hN.1
  rw[hb]at h1
  cases h1
  exact h2
 have hnew:∃ fr':Nat × Nat,(w.freeze ⟨b,n,none⟩ 1).heap[b]? = some (.cells c e fr')∧c.size≤fr'.1:=by
  obtain⟨lo,hi⟩:=fr
  rw[hh,Array.getElem?_modify,if_pos rfl,hb]
  refine⟨_,rfl,?_⟩
  simp only[calmObj]at hcalm
  by_cases hx:lo=hi
  · subst hx;simp[hn]
  · have:(lo == hi)=false:=by simpa using hx
    rw[this]
    simp only[Bool.false_eq_true,if_false]
    rcases hcalm with h1 | h1
    · exact absurd h1 hx
    · omega
 obtain⟨fr',hb',hfr'⟩:=hnew
 have hcell:∀ b2 k,(w.freeze ⟨b,n,none⟩ 1).cell? ⟨b2,k,none⟩=w.cell? ⟨b2,k,none⟩:=fun b2 k=>by
  by_cases hx:b2=b
  · subst hx;simp only[World.cell?,hb,hb']
  · simp only[World.cell?,other b2 hx]
 have hfz:∀ b2 k,(w.cell? ⟨b2,k,none⟩).isSome=true→w.frozen? ⟨b2,k,none⟩=false→(w.freeze ⟨b,n,none⟩ 1).frozen? ⟨b2,k,none⟩=false:=fun b2 k h1 h2=>by
  by_cases hx:b2=b
  · subst hx
    simp only[World.cell?,hb]at h1
    have hk:k<c.size:=by
     rcases Nat.lt_or_ge k c.size with h | h
     · exact h
     · rw[Array.getElem?_eq_none h]at h1;simp at h1
    simp only[World.frozen?,hb']
    have:¬fr'.1≤k:=by omega
    simp[this]
  · simp only[World.frozen?,other b2 hx]at h2 ⊢
    exact h2
 refine⟨⟨S.below.os,S.below.tape,S.below.output,by rw[hh,Array.size_modify];exact S.below.size,fun k hk => ?_⟩,by rw[hh,Array.size_modify];exact S.base,fun k o' hg2 => ?_,S.void,S.fresh,fun j => ?_,S.apart,?_⟩
 · rw[other k (by have:=hN.1;omega)];exact S.below.block k hk
 · rw[other k (fun e=>by rw[e,hN.2]at hg2;cases hg2)];exact S.ghost k o' hg2
 · have hj:=S.obj j
   cases ho:H.get j with
   | dead=>trivial
   | row own tl es cs =>
    rw[ho]at hj
    cases hl:L j with
    | none=>rw[hl]at hj;exact hj.elim
    | some p =>
     obtain⟨b2,o2,t2⟩:=p
     rw[hl]at hj
     obtain⟨k1,k2,k3,k4,k5⟩:=hj
     refine⟨fun k hk => ?_,k2,k3,k4,fun ho=>⟨(k5 ho).1,by rw[hh,Array.size_modify];exact (k5 ho).2.1,fun k hk => ?_⟩⟩
     · obtain⟨v',e1,r⟩:=k1 k hk
       exact⟨v',by rw[hcell];exact e1,r⟩
     · obtain⟨e1,e2⟩:=(k5 ho).2.2 k hk
       exact⟨by rw[hcell];exact e1,hfz _ _ e1 e2⟩
   | map es =>
    rw[ho]at hj
    cases hl:L j with
    | none=>rw[hl]at hj;exact hj.elim
    | some p =>
     obtain⟨b2,o2,t2⟩:=p
     rw[hl]at hj
     obtain⟨k1,arr,clock,k2,k3⟩:=hj
     have hx:b2≠b:=fun e=>by subst e;rw[hb]at k2;cases k2
     exact⟨k1,arr,clock,by rw[other b2 hx];exact k2,k3⟩
   | siter s pos =>
    rw[ho]at hj
    cases hl:L j with
    | none=>rw[hl]at hj;exact hj.elim
    | some p =>
     obtain⟨b2,o2,t2⟩:=p
     rw[hl]at hj
     obtain⟨k1,k2,k3⟩:=hj
     have hx:b2≠b:=fun e=>by subst e;rw[hb]at k3;cases k3
     exact⟨k1,k2,by rw[other b2 hx];exact k3⟩
   | unit e =>
    rw[ho]at hj
    cases hl:L j with
    | none=>rw[hl]at hj;exact hj.elim
    | some p =>
     obtain⟨b2,o2,t2⟩:=p
     rw[hl]at hj
     obtain⟨k1,k2,c2,fr2,k3⟩:=hj
     by_cases hx:b2=b
     · subst hx
       rw[hb]at k3
       simp only[Option.some.injEq,Obj.cells.injEq]at k3
       obtain⟨_,rfl,_⟩:=k3
       exact⟨k1,k2,_,_,hb'⟩
     · exact⟨k1,k2,c2,fr2,by rw[other b2 hx];exact k3⟩
 · intro id' k o' t' hl' hk
   by_cases hx:k=b
   · subst hx
     exact⟨_,hb',.inr hfr'⟩
   · rw[other k hx]
     exact S.calm id' k o' t' hl' hk
theorem markStringish_run (S:Sim N W0 L H w){b o:Nat}{id o' t:Nat}(hl:L id=some (b,o',t))(hN:N.own b):∃ w',(markStringish ⟨b,o,none⟩).run P w = .ok () w'∧Sim N W0 L H w':=by
 cases hb:w.heap[b]? with
 | none=>exact⟨w,by simp[markStringish,World.shape?,hb],S⟩
 | some ob =>
  cases ob with
  | cells c e fr=>exact⟨_,by simp[markStringish,World.shape?,hb],S.freeze hl hN hb rfl⟩
  | _=>exact⟨w,by simp[markStringish,World.shape?,hb],S⟩
theorem convert_run {src dst:TypeId}{x x' v:Value}{H':Heap}(S:Sim N W0 L H w)(h:exConvert P src dst x H=some (v,H'))(hx:VR L x x') :
  ∃ L' w' v',(convert src dst x').run P w = .ok v' w'∧L.le L'∧Sim N W0 L' H' w'∧VR L' v v':=by
 unfold exConvert at h
 split at h
 · rename_i e s hs hd
   split at h
   · rename_i he
     simp only[Option.some.injEq,Prod.mk.injEq]at h
     obtain⟨rfl,rfl⟩:=h
     cases hx
     obtain⟨L',w',v',e1,e2,e3,e4⟩:=stringToBytes_run (P:=P) S e s
     refine⟨L',w',v',?_,e2,e3,e4⟩
     rw[← e1]
     simp only[convert,Sem.run_bind,run_underlying hs,run_underlying hd,Result.andThen_ok,run_underlying he]
   · cases h
 · rename_i e a len c hs hd
   split at h
   · rename_i he
     split at h
     · rename_i cs hc
       simp only[Option.map_eq_some_iff,Prod.mk.injEq]at h
       obtain⟨l,hl,rfl,rfl⟩:=h
       have:=bytesToString_run (P:=P) S hc hl hx
       refine⟨L,w,_,?_,Lay.le_refl L,S,.string _⟩
       rw[← this]
       cases hx<;>simp only[convert,Sem.run_bind,run_underlying hs,run_underlying hd,Result.andThen_ok,run_underlying he]
     · cases h
   · cases h
 · cases h
 · rename_i e e' id off l c hs hd
   split at h
   · rename_i tl es cs hsd hu hg
     simp only[Option.some.injEq,Prod.mk.injEq]at h
     obtain⟨rfl,rfl⟩:=h
     obtain⟨b,o,t,cs',hl,hr,hlr,h1,h1',_,hown⟩:=S.row hg
     cases hx with
     | slice _ _ _ _ b0 o0 t0 hl0 =>
      rw[hl]at hl0
      simp only[Option.some.injEq,Prod.mk.injEq]at hl0
      obtain⟨rfl,rfl,rfl⟩:=hl0
      obtain⟨w',e1,S'⟩:=markStringish_run (P:=P) (o:=o+off) S hl (hown rfl).1
      have hsd:=Nat.eq_of_beq_eq_true hsd
      subst hsd
      rw[hs]at hd
      simp only[Option.some.injEq,TypeDesc.slice.injEq]at hd
      subst hd
      refine⟨L,w',_,?_,Lay.le_refl L,S',.slice _ _ _ _ _ _ _ hl⟩
      simp only[convert,Sem.run_bind,run_underlying hs,Result.andThen_ok,run_underlying hu,beq_self_eq_true,e1,Sem.run_pure]
   · cases h
 · cases h
 · split at h
   · rename_i hg
     simp only[Option.map_eq_some_iff,Prod.mk.injEq]at h
     obtain⟨u,hu,rfl,rfl⟩:=h
     obtain⟨h1,h2⟩:=ifGround_some hu
     rw[hx.ground_eq hg]
     exact⟨L,w,u,pureRun_run P _ _ h1 w,Lay.le_refl L,S,ground_VR L u h2⟩
   · cases h
end Go.Vm
namespace Go.Vm
open Go.RowKit
variable {P:Program} {N:Th} {W0:World} {L:Lay} {H:Heap} {w:World}
theorem evA_run {t:List Value}{x:Operand}{v:Value}{a:Act}(h:evA t x=some v)(ht:LR L t a.tmps.toList):VR L v (a.eval x):=by
 cases x with
 | tmp k =>
  simp only[evA,Option.some.injEq]at h;subst h
  have h2:=ht.getD k (vr_undef L)
  have e1:a.tmps.getD k undef=a.tmps.toList.getD k undef:=by rw[Array.getD_eq_getD_getElem?,List.getD_eq_getElem?_getD,Array.getElem?_toList]
  simp only[Act.eval,e1]
  exact h2
 | const c =>
  simp only[evA]at h
  split at h
  · rename_i hg;simp only[Option.some.injEq]at h;subst h;exact ground_VR L _ hg
  · cases h
 | global g=>simp[evA]at h
 | func f =>
  simp only[evA,Option.some.injEq]at h;subst h
  exact .func _ [] [] [] [] rfl rfl (fun i h=>by simp at h) (fun i h=>by simp at h)
theorem evL_run {t:List Value}{a:Act}(ht:LR L t a.tmps.toList):∀ {xs:List Operand}{vs:List Value},evL t xs=some vs→LR L vs (xs.map a.eval)
 | [],vs,h=>by simp only[evL,Option.some.injEq]at h;subst h;exact LR.nil L
 | x :: xs, vs, h => by
  simp only[evL]at h
  split at h
  · rename_i v vs' e1 e2
    simp only[Option.some.injEq]at h;subst h
    exact (evL_run ht e2).cons (evA_run e1 ht)
  · cases h
theorem evO_run {t:List Value}{a:Act}(ht:LR L t a.tmps.toList){x:Option Operand}{v:Option Value}(h:evO t x=some v):OR L v (x.map a.eval):=by
 cases x with
 | none=>simp only[evO,Option.some.injEq]at h;subst h;trivial
 | some x =>
  simp only[evO,Option.map_eq_some_iff]at h
  obtain⟨u,h,rfl⟩:=h
  exact evA_run h ht
theorem evP_run {t:List Value}{a:Act}(ht:LR L t a.tmps.toList):∀ {xs:List (Nat × Operand)}{vs:List (Nat × Value)},evP t xs=some vs→PR L vs (xs.map fun p=>(p.1,a.eval p.2))
 | [],vs,h=>by simp only[evP,Option.some.injEq]at h;subst h;exact PR.nil
 | (i, x) :: xs, vs, h => by
  simp only[evP]at h
  split at h
  · rename_i v vs' e1 e2
    simp only[Option.some.injEq]at h;subst h
    exact PR.cons (evA_run e1 ht) (evP_run ht e2)
  · cases h
def OutRel (L:Lay):Out→Ending→Prop
 | .val v,.returned v'=>VR L v v'
 | .pan v,.panicked ch=>∃ v',ch=[{ v:=v',recovered:=false }]∧VR L v v'
 | _,_=>False
def CallsX (P:Program)(f:FuncId)(args:Array Value)(w:World)(R:Ending→World→Prop):Prop :=
 (∃ fn, P.funcs[f]? = some fn ∧ (fn.name == "runtime.NumGoroutine") = false ∧ fn.body.isNone = false ∧ Calls P f args w R) ∨
 (∃ v w',(callFunc f args).run P w = .ok (.value v) w'∧R (.returned v) w')
def CallOK (P:Program)(N:Th)(W0:World)(call:CallA):Prop :=
 ∀ f args H out H',call f args H=some (out,H')→∀ L w args',Sim N W0 L H w→LR L args args' →
  CallsX P f ⟨args'⟩ w fun e w'=>∃ L',L.le L'∧Sim N W0 L' H' w'∧OutRel L' out e
def Tabs (T:List (Nat × Obj))(N:Th)(W0:World):Prop:=∀ q∈T,q.1<N.n∧W0.heap[q.1]? = some q.2
theorem Tabs.later {T:List (Nat × Obj)}{N:Th}{W0:World}{L:Lay}{H:Heap}{w:World}(h:Tabs T N W0)(S:Sim N W0 L H w):Tabs T w.heap.size w:=fun q hq =>
 ⟨Nat.lt_of_lt_of_le (h q hq).1 S.base,by rw[S.below.block _ (h q hq).1];exact (h q hq).2⟩
theorem CallsX.upon {f:FuncId}{args:Array Value}{R:Ending→World→Prop}(h:CallsX P f args w R)(o:Oper)(a:Act)(next:Act→World→Prop)(Q:Exit→Act→World→Prop)
  (hv:∀ v w',R (.returned v) w'→next (a.put o.dst v) w') (hp:∀ ch w',R (.panicked ch) w'→Q (.panic ch) a w') (ho:∀ w',¬R .outgrown w') :
  o.upon P a next Q ((callFunc f args).run P w):=by
 rcases h with⟨fn,h1,h2,h3,h4⟩ | ⟨v,w',h1,h2⟩
 · have:(callFunc f args).run P w = .ok (.enter f args) w:=by
    unfold callFunc
    simp only[Sem.run_bind,run_program,Result.andThen_ok,h1]
    rw[if_neg (by rw[h2];simp),if_neg (by rw[h3];simp)]
    rfl
   rw[this,Oper.upon_enter]
   refine h4.mono fun e w' hr => ?_
   cases e with
   | returned v=>exact hv v w' hr
   | panicked ch=>exact hp ch w' hr
   | outgrown=>exact absurd hr (ho w')
 · rw[h1,Oper.upon_value]
   exact hv v w' h2
def Goes (N:Th)(W0:World)(L:Lay)(H':Heap)(out:Out)(o:Oper)(a:Act)(next:Act→World→Prop)(Q:Exit→Act→World→Prop):Prop :=
 match out with
 | .val v=>∀ L' v' w',L.le L'→Sim N W0 L' H' w'→VR L' v v'→next (a.put o.dst v') w'
 | .pan v=>∀ L' v' w',L.le L'→Sim N W0 L' H' w'→VR L' v v'→Q (.panic [{ v:=v',recovered:=false }]) a w'
theorem wp_val {o:Oper}{a:Act}{next:Act→World→Prop}{Q:Exit→Act→World→Prop}{s:Sem Value}{L':Lay}{w':World}{v v':Value}{H':Heap}
  (he:execOp a.eval o=(do pure (.value (← s)))) (hr:s.run P w = .ok v' w') (hl:L.le L') (S:Sim N W0 L' H' w') (hv:VR L' v v') (g:Goes N W0 L H' (.val v) o a next Q):o.wp P a w next Q:=by
 unfold Oper.wp
 rw[he]
 simp only[Sem.run_bind,hr,Result.andThen_ok,Sem.run_pure,Oper.upon_value]
 exact g L' v' w' hl S hv
theorem wp_skip' {o:Oper}{a:Act}{next:Act→World→Prop}{Q:Exit→Act→World→Prop}{s:Sem Unit}{L':Lay}{w':World}{H':Heap}
  (he:execOp a.eval o=(do s;pure .skip)) (hr:s.run P w = .ok () w') (hl:L.le L') (S:Sim N W0 L' H' w') (g:Goes N W0 L H' (.val undef) o a next Q):o.wp P a w next Q:=by
 unfold Oper.wp
 rw[he]
 simp only[Sem.run_bind,hr,Result.andThen_ok,Sem.run_pure,Oper.upon_skip]
 exact g L' undef w' hl S (vr_undef L')
end Go.Vm
namespace Go.Vm
open Go.RowKit
variable {P:Program} {N:Th} {W0:World} {L:Lay} {H:Heap} {w:World}
theorem val1_some {r:Option Value}{H H':Heap}{out:Out}(h:val1 r H=some (out,H')):∃ v,r=some v∧out = .val v∧H'=H:=by
 simp only[val1,Option.map_eq_some_iff,Prod.mk.injEq]at h
 obtain⟨v,h1,h2,h3⟩:=h
 exact⟨v,h1,h2.symm,h3.symm⟩
theorem val2_some {r:Option (Value × Heap)}{H':Heap}{out:Out}(h:val2 r=some (out,H')):∃ v,r=some (v,H')∧out = .val v:=by
 simp only[val2,Option.map_eq_some_iff,Prod.mk.injEq]at h
 obtain⟨⟨v,H2⟩,h1,h2,h3⟩:=h
 simp only at h2 h3
 subst h3
 exact⟨v,h1,h2.symm⟩
theorem skip1_some {r:Option Heap}{H':Heap}{out:Out}(h:skip1 r=some (out,H')):r=some H'∧out = .val undef:=by
 simp only[skip1,Option.map_eq_some_iff,Prod.mk.injEq]at h
 obtain⟨H2,h1,h2,h3⟩:=h
 subst h3
 exact⟨h1,h2.symm⟩
theorem builtin_run {b:Builtin}{ts:List TypeId}{ty:TypeId}{args args':List Value}{cs:Array Bool}{out:Out}{H':Heap}(S:Sim N W0 L H w)(h:exBuiltin P b ts args H=some (out,H'))(ha:LR L args args') :
  ∃ L' w' v v',(builtin b ⟨ts⟩ ty cs ⟨args'⟩).run P w = .ok (.value v') w'∧out = .val v∧L.le L'∧Sim N W0 L' H' w'∧VR L' v v':=by
 unfold exBuiltin at h
 split at h
 · rename_i s x
   obtain⟨s',y',rfl,h1,h2⟩:=ha.cases_cons
   obtain⟨x',z',rfl,h3,h4⟩:=h2.cases_cons
   have:=h4.cases_nil
   subst this
   obtain⟨v,e1,rfl⟩:=val2_some h
   obtain⟨L',w',v',r1,r2,r3,r4⟩:=append_run (P:=P) (ty:=ty) S e1 h1 h3
   exact⟨L',w',v,v',by simp[builtin,r1],rfl,r2,r3,r4⟩
 · rename_i d x
   obtain⟨s',y',rfl,h1,h2⟩:=ha.cases_cons
   obtain⟨x',z',rfl,h3,h4⟩:=h2.cases_cons
   have:=h4.cases_nil
   subst this
   obtain⟨v,e1,rfl⟩:=val2_some h
   obtain⟨w',r1,r2,r3⟩:=copy_run (P:=P) (ty:=ty) S e1 h1 h3
   exact⟨L,w',v,v,by simp[builtin,r1],rfl,Lay.le_refl L,r2,ground_VR L v r3⟩
 · rename_i x
   obtain⟨s',y',rfl,h1,h2⟩:=ha.cases_cons
   have:=h2.cases_nil
   subst this
   simp only[Option.map_eq_some_iff,Prod.mk.injEq]at h
   obtain⟨H2,e1,rfl,rfl⟩:=h
   obtain⟨w',r1,r2⟩:=clear_run (P:=P) (ty:=ty) S e1 h1
   exact⟨L,w',_,.tuple #[],by simp[builtin,r1],rfl,Lay.le_refl L,r2,vr_undef L⟩
 · rename_i x
   obtain⟨s',y',rfl,h1,h2⟩:=ha.cases_cons
   have:=h2.cases_nil
   subst this
   obtain⟨v,e1,rfl,rfl⟩:=val1_some h
   obtain⟨r1,r2⟩:=len_run (P:=P) (ty:=ty) S e1 h1
   exact⟨L,w,v,v,by simp[builtin,r1],rfl,Lay.le_refl L,S,ground_VR L v r2⟩
 · rename_i x
   obtain⟨s',y',rfl,h1,h2⟩:=ha.cases_cons
   have:=h2.cases_nil
   subst this
   obtain⟨v,e1,rfl,rfl⟩:=val1_some h
   obtain⟨r1,r2⟩:=cap_run (P:=P) (ty:=ty) S e1 h1
   exact⟨L,w,v,v,by simp[builtin,r1],rfl,Lay.le_refl L,S,ground_VR L v r2⟩
 · split at h
   · rename_i hg
     obtain⟨v,e1,rfl,rfl⟩:=val1_some h
     obtain⟨e2,e3⟩:=ifGround_some e1
     have:=ha.ground_eq hg
     subst this
     have r:(Builtin.min_ ⟨ts⟩ ty ⟨args'⟩).run P w = .ok v w:=pureRun_run P _ _ e2 w
     exact⟨L,w,v,v,by simp[builtin,r],rfl,Lay.le_refl L,S,ground_VR L v e3⟩
   · cases h
 · split at h
   · rename_i hg
     obtain⟨v,e1,rfl,rfl⟩:=val1_some h
     obtain⟨e2,e3⟩:=ifGround_some e1
     have:=ha.ground_eq hg
     subst this
     have r:(Builtin.max_ ⟨ts⟩ ty ⟨args'⟩).run P w = .ok v w:=pureRun_run P _ _ e2 w
     exact⟨L,w,v,v,by simp[builtin,r],rfl,Lay.le_refl L,S,ground_VR L v e3⟩
   · cases h
 · cases h
theorem method_run {t:TypeId}{name:String}{f:FuncId}(h:exMethod P t name=some f)(v:Value)(w:World):(method (P.types.size+Made.depth) t v name).run P w = .ok (f,v) w:=by
 unfold exMethod at h
 split at h
 · rename_i i hi
   split at h
   · rename_i m hm
     have h9:0<Made.depth:=by decide
     have hd:∃ k,P.types.size+Made.depth=k+1:=⟨P.types.size+Made.depth - 1,by omega⟩
     obtain⟨k,hk⟩:=hd
     rw[hk]
     have hti:∀ w,(typeInfo t).run P w = .ok i w:=fun w=>by simp only[typeInfo,Sem.run_bind,run_program,Result.andThen_ok,hi,Sem.run_pure]
     split at h
     · rename_i f' e hp hf hu
       simp only[Option.some.injEq]at h
       subst h
       simp only[method,Sem.run_bind,hti,Result.andThen_ok,hm,hp,follow,Sem.run_pure,hf,receiverAt,run_underlying hu,Place.get]
     · cases h
     · rename_i f' d hnp hp hf hu
       simp only[Option.some.injEq]at h
       subst h
       simp only[method,Sem.run_bind,hti,Result.andThen_ok,hm,hp,follow,Sem.run_pure,hf,receiverAt,run_underlying hu]
       cases d<;>first | exact absurd rfl (hnp _) | simp[Place.get]
     · cases h
   · cases h
 · cases h
theorem call_run {call:CallA}(hc:CallOK P N W0 call){c:Call}{t:List Value}{out:Out}{H':Heap}(S:Sim N W0 L H w)(h:exCallOp P call c t H=some (out,H')){a:Act}(ht:LR L t a.tmps.toList)
  {o:Oper} (ho:o.op = .call c) {next:Act→World→Prop} {Q:Exit→Act→World→Prop} (g:Goes N W0 L H' out o a next Q):o.wp P a w next Q:=by
 unfold exCallOp at h
 cases hargs:evL t c.args.toList with
 | none=>simp[hargs]at h
 | some args =>
  simp only[hargs]at h
  have hal:=evL_run ht hargs
  have hmap:c.args.map a.eval=⟨c.args.toList.map a.eval⟩:=by
   apply Array.ext';simp
  split at h
  · -- a builtin
    rename_i b hb
    obtain⟨L',w',v,v',r1,rfl,r2,r3,r4⟩:=builtin_run (P:=P) (ty:=o.type) (cs:=c.args.map fun | .const _=>true | _=>false) S h hal
    have he:(execOp a.eval o).run P w = .ok (.value v') w':=by
     simp only[execOp,ho,resolve,hb,Sem.run_bind,Sem.run_pure,Result.andThen_ok,invoke,hmap]
     exact r1
    unfold Oper.wp
    rw[he,Oper.upon_value]
    exact g L' v' w' r2 r3 r4
  · -- a function's value
    rename_i f hf
    split at h
    · rename_i gf first captured hev
      have hfv:=evA_run hev ht
      obtain⟨x⟩:=first
      obtain⟨y⟩:=captured
      generalize hfe:a.eval f=fv at hfv
      cases hfv with
      | func _ _ x' _ y' hx hy ex ey =>
       have hl1:LR L x x':=⟨hx,ex⟩
       have hl2:LR L y y':=⟨hy,ey⟩
       have hall:=(hl1.append hal).append hl2
       have hcx:=hc gf _ H out H' h L w _ S hall
       have he:(execOp a.eval o).run P w=(callFunc gf ⟨x'++c.args.toList.map a.eval++y'⟩).run P w:=by
        simp only[execOp,ho,resolve,hf,hfe,Deferred.ofValue,Sem.run_bind,Sem.run_pure,Result.andThen_ok,invoke,hmap]
        congr 2
        simp
       unfold Oper.wp
       rw[he]
       refine hcx.upon o a next Q ?_ ?_ ?_
       · rintro v w' ⟨L',r1,r2,r3⟩
         cases out with
         | val u=>exact g L' v w' r1 r2 r3
         | pan u=>exact r3.elim
       · rintro ch w' ⟨L',r1,r2,r3⟩
         cases out with
         | val u=>exact r3.elim
         | pan u =>
          obtain⟨v',rfl,r3⟩:=r3
          exact g L' v' w' r1 r2 r3
       · rintro w' ⟨L',r1,r2,r3⟩
         cases out<;>exact r3
    · cases h
  · -- a method
    rename_i r m hf
    split at h
    · rename_i t1 v1 hev
      split at h
      · rename_i gf hm
        have hfv:=evA_run hev ht
        generalize hfe:a.eval r=fv at hfv
        cases hfv with
        | iface _ _ v' hv =>
         have hall:LR L (v1 :: args) (v' :: c.args.toList.map a.eval):=by
          have h1:LR L [v1] [v']:=⟨rfl,fun i h1 h2=>by cases i with | zero=>exact hv | succ i=>simp at h1⟩
          exact h1.append hal
         have hcx:=hc gf _ H out H' h L w _ S hall
         have he:(execOp a.eval o).run P w=(callFunc gf ⟨v' :: c.args.toList.map a.eval⟩).run P w:=by
          simp only[execOp,ho,resolve,hf,hfe,Sem.run_bind,Sem.run_pure,Result.andThen_ok,invoke,hmap]
          have h0:(#[Value.iface t1 v']++({ toList:=c.args.toList.map a.eval }:Array Value))[0]? = some (.iface t1 v'):=by simp
          have h2:(#[Value.iface t1 v']++({ toList:=c.args.toList.map a.eval }:Array Value)).extract 1 (#[Value.iface t1 v']++({ toList:=c.args.toList.map a.eval }:Array Value)).size=⟨c.args.toList.map a.eval⟩:=by
           apply Array.ext';simp;exact List.take_of_length_le (by simp)
          simp only[h0,h2,callMethod,Sem.run_bind,run_program,Result.andThen_ok,method_run hm v' w]
          congr 2
          apply Array.ext';simp
         unfold Oper.wp
         rw[he]
         refine hcx.upon o a next Q ?_ ?_ ?_
         · rintro v w' ⟨L',r1,r2,r3⟩
           cases out with
           | val u=>exact g L' v w' r1 r2 r3
           | pan u=>exact r3.elim
         · rintro ch w' ⟨L',r1,r2,r3⟩
           cases out with
           | val u=>exact r3.elim
           | pan u =>
            obtain⟨v',rfl,r3⟩:=r3
            exact g L' v' w' r1 r2 r3
         · rintro w' ⟨L',r1,r2,r3⟩
           cases out<;>exact r3
      · cases h
    · cases h
theorem op_run {call:CallA}(hc:CallOK P N W0 call){o:Oper}{t:List Value}{out:Out}{H':Heap}(S:Sim N W0 L H w)(h:exOp P call o.op t H=some (out,H')){a:Act}(ht:LR L t a.tmps.toList)
  {next:Act→World→Prop} {Q:Exit→Act→World→Prop} (g:Goes N W0 L H' out o a next Q):o.wp P a w next Q:=by
 unfold exOp at h
 have hlr:=Lay.le_refl L
 split at h
 · -- move
   rename_i x ho
   obtain⟨v,e1,rfl,rfl⟩:=val1_some h
   have hv:=evA_run e1 ht
   have he:(execOp a.eval o).run P w = .ok (.value (a.eval x)) w:=by simp only[execOp,ho,Sem.run_pure]
   unfold Oper.wp;rw[he,Oper.upon_value];exact g L _ w hlr S hv
 · -- assign
   rename_i x ho
   obtain⟨v,e1,rfl,rfl⟩:=val1_some h
   have hv:=evA_run e1 ht
   have he:(execOp a.eval o).run P w = .ok (.value (a.eval x)) w:=by simp only[execOp,ho,Sem.run_pure]
   unfold Oper.wp;rw[he,Oper.upon_value];exact g L _ w hlr S hv
 · -- pick
   rename_i c x y ho
   split at h
   · rename_i b hb
     have hcb:=evA_run hb ht
     generalize hce:a.eval c=cv at hcb
     cases hcb
     obtain⟨v,e1,rfl,rfl⟩:=val1_some h
     have he:(execOp a.eval o).run P w = .ok (.value (if b then a.eval x else a.eval y)) w:=by
      simp only[execOp,ho,hce,asBool,Sem.run_bind,Sem.run_pure,Result.andThen_ok]
     unfold Oper.wp;rw[he,Oper.upon_value]
     refine g L _ w hlr S ?_
     cases b with
     | true=>exact evA_run e1 ht
     | false=>exact evA_run e1 ht
   · cases h
 · -- alloc
   rename_i ty ho
   obtain⟨v,e1,rfl⟩:=val2_some h
   obtain⟨L',w',v',r1,r2,r3,r4⟩:=alloc_run (P:=P) S e1
   exact wp_val (by simp only[execOp,ho]) r1 r2 r3 r4 g
 · -- box
   rename_i ty x ho
   split at h
   · rename_i v0 hv0
     obtain⟨v,e1,rfl⟩:=val2_some h
     obtain⟨L',w',v',r1,r2,r3,r4⟩:=box_run (P:=P) S e1 (evA_run hv0 ht)
     exact wp_val (by simp only[execOp,ho]) r1 r2 r3 r4 g
   · cases h
 · -- build
   rename_i ty ps ho
   split at h
   · rename_i l hl
     obtain⟨v,e1,rfl,rfl⟩:=val1_some h
     obtain⟨v',r1,r2⟩:=build_run (P:=P) e1 (evP_run ht hl) w
     have hmap:ps.map (fun p=>(p.1,a.eval p.2))=⟨ps.toList.map fun p=>(p.1,a.eval p.2)⟩:=by apply Array.ext';simp
     exact wp_val (by simp only[execOp,ho,hmap]) r1 hlr S r2 g
   · cases h
 · -- buildSlice
   rename_i ty n ps ho
   split at h
   · rename_i l hl
     obtain⟨v,e1,rfl⟩:=val2_some h
     obtain⟨L',w',v',r1,r2,r3,r4⟩:=buildSlice_run (P:=P) S e1 (evP_run ht hl)
     have hmap:ps.map (fun p=>(p.1,a.eval p.2))=⟨ps.toList.map fun p=>(p.1,a.eval p.2)⟩:=by apply Array.ext';simp
     exact wp_val (by simp only[execOp,ho,hmap]) r1 r2 r3 r4 g
   · cases h
 · -- load
   rename_i ty x ho
   split at h
   · rename_i v0 hv0
     obtain⟨v,e1,rfl,rfl⟩:=val1_some h
     obtain⟨v',r1,r2⟩:=load_run (P:=P) S e1 (evA_run hv0 ht)
     exact wp_val (by simp only[execOp,ho]) r1 hlr S r2 g
   · cases h
 · -- store
   rename_i ty x y ho
   split at h
   · rename_i v0 u0 hv0 hu0
     obtain⟨e1,rfl⟩:=skip1_some h
     obtain⟨w',r1,r2⟩:=store_run (P:=P) S e1 (evA_run hv0 ht) (evA_run hu0 ht)
     exact wp_skip' (by simp only[execOp,ho]) r1 hlr r2 g
   · cases h
 · -- nilCheck
   rename_i x ho
   split at h
   · rename_i ad hv
     simp only[Option.some.injEq,Prod.mk.injEq]at h
     obtain⟨rfl,rfl⟩:=h
     have hvx:=evA_run hv ht
     have he:(execOp a.eval o).run P w = .ok (.value (a.eval x)) w:=by
      generalize hxe:a.eval x=xv at hvx
      cases hvx
      simp only[execOp,ho,hxe,Sem.run_pure]
     unfold Oper.wp;rw[he,Oper.upon_value];exact g L _ w hlr S hvx
   · rename_i f x1 y1 hv
     simp only[Option.some.injEq,Prod.mk.injEq]at h
     obtain⟨rfl,rfl⟩:=h
     have hvx:=evA_run hv ht
     have he:(execOp a.eval o).run P w = .ok (.value (a.eval x)) w:=by
      generalize hxe:a.eval x=xv at hvx
      cases hvx
      simp only[execOp,ho,hxe,Sem.run_pure]
     unfold Oper.wp;rw[he,Oper.upon_value];exact g L _ w hlr S hvx
   · cases h
 · -- binOp
   rename_i op ty x y yt ho
   split at h
   · rename_i v0 u0 hv0 hu0
     obtain⟨v,e1,rfl,rfl⟩:=val1_some h
     obtain⟨r1,r2⟩:=bin_run (P:=P) e1 (evA_run hv0 ht) (evA_run hu0 ht) w
     exact wp_val (by simp only[execOp,ho]) r1 hlr S (ground_VR L v r2) g
   · cases h
 · -- unOp
   rename_i op ty x ho
   split at h
   · rename_i v0 hv0
     split at h
     · rename_i hg
       obtain⟨v,e1,rfl,rfl⟩:=val1_some h
       obtain⟨e2,e3⟩:=ifGround_some e1
       have hvx:=(evA_run hv0 ht).ground_eq hg
       have r1:(Op.unary op (a.eval x)).run P w = .ok v w:=by rw[hvx];exact pureRun_run P _ _ e2 w
       exact wp_val (by simp only[execOp,ho]) r1 hlr S (ground_VR L v e3) g
     · cases h
   · cases h
 · -- typeAssert
   rename_i x xt ty ok ho
   split at h
   · rename_i v0 hv0
     split at h
     · rename_i hg
       obtain⟨v,e1,rfl,rfl⟩:=val1_some h
       obtain⟨e2,e3⟩:=ifGround_some e1
       have hvx:=(evA_run hv0 ht).ground_eq hg
       have r1:(Instr.typeAssert (a.eval x) xt ty ok).run P w = .ok v w:=by rw[hvx];exact pureRun_run P _ _ e2 w
       exact wp_val (by simp only[execOp,ho]) r1 hlr S (ground_VR L v e3) g
     · cases h
   · cases h
 · -- convert
   rename_i sr ds x ho
   split at h
   · rename_i v0 hv0
     obtain⟨v,e1,rfl⟩:=val2_some h
     obtain⟨L',w',v',r1,r2,r3,r4⟩:=convert_run (P:=P) S e1 (evA_run hv0 ht)
     exact wp_val (by simp only[execOp,ho]) r1 r2 r3 r4 g
   · cases h
 · -- makeInterface
   rename_i ty x ho
   split at h
   · rename_i v0 hv0
     split at h
     · cases h
     · cases h
     · rename_i d hni hu
       simp only[Option.some.injEq,Prod.mk.injEq]at h
       obtain⟨rfl,rfl⟩:=h
       have hvx:=evA_run hv0 ht
       have r1:(Instr.makeInterface ty (a.eval x)).run P w = .ok (.iface ty (a.eval x)) w:=by
        simp only[Instr.makeInterface,Sem.run_bind,run_underlying hu,Result.andThen_ok]
        cases d<;>first | exact absurd rfl (hni _) | rfl
       exact wp_val (by simp only[execOp,ho]) r1 hlr S (.iface ty _ _ hvx) g
   · cases h
 · -- makeFunc
   rename_i f x y ho
   split at h
   · rename_i xs ys hxs hys
     simp only[Option.some.injEq,Prod.mk.injEq]at h
     obtain⟨rfl,rfl⟩:=h
     have h1:=evL_run ht hxs
     have h2:=evL_run ht hys
     have hm1:x.map a.eval=⟨x.toList.map a.eval⟩:=by apply Array.ext';simp
     have hm2:y.map a.eval=⟨y.toList.map a.eval⟩:=by apply Array.ext';simp
     have r1:(Instr.makeFunc (.func f) (x.map a.eval) (y.map a.eval)).run P w = .ok (.func (.func f) ⟨x.toList.map a.eval⟩ ⟨y.toList.map a.eval⟩) w:=by
      rw[hm1,hm2];rfl
     exact wp_val (by simp only[execOp,ho]) r1 hlr S (.func _ _ _ _ _ h1.1 h2.1 h1.2 h2.2) g
   · cases h
 · -- makeMap
   rename_i ty ho
   simp only[Option.some.injEq,Prod.mk.injEq]at h
   obtain⟨rfl,rfl⟩:=h
   have S':=(S.alloc (.map #[] 0) trivial).put (.map []) (w.heap.size,0,0) ⟨S.new,#[],0,alloc_heap_new w _,rfl,fun i h=>by simp at h⟩ (fun j b k q1 q2=>by
    have:=(Owns.lt (S.obj j) q2).2
    have:b=w.heap.size:=q1
    omega) (fun _=>⟨_,heap_new w _,trivial⟩)
   have r1:(Instr.makeMap ty none).run P w = .ok (.map (some w.heap.size)) (w.alloc (.map #[] 0)):=by
    simp only[Instr.makeMap,Sem.run_bind,Sem.run_pure,Result.andThen_ok,run_newObj,World.alloc_eq]
   exact wp_val (by simp only[execOp,ho,Option.map_none]) r1 (upd_le (S.fresh _ (Nat.le_refl _))) S' (.map _ _ _ _ (upd_same _ _ _)) g
 · -- makeSlice
   rename_i ty x y ho
   split at h
   · rename_i v0 u0 hv0 hu0
     obtain⟨v,e1,rfl⟩:=val2_some h
     obtain⟨L',w',v',r1,r2,r3,r4⟩:=makeSlice_run (P:=P) S e1 (evA_run hv0 ht) (evA_run hu0 ht)
     exact wp_val (by simp only[execOp,ho]) r1 r2 r3 r4 g
   · cases h
 · -- slice
   rename_i ty x lo hi mx ho
   split at h
   · rename_i v0 l0 h0 m0 hv0 hl0 hh0 hm0
     obtain⟨v,e1,rfl⟩:=val2_some h
     obtain⟨L',w',v',r1,r2,r3,r4⟩:=slice_run (P:=P) S e1 (evA_run hv0 ht) (evO_run ht hl0) (evO_run ht hh0) (evO_run ht hm0)
     exact wp_val (by simp only[execOp,ho]) r1 r2 r3 r4 g
   · cases h
 · -- fieldAddr
   rename_i s x f ho
   split at h
   · rename_i v0 hv0
     obtain⟨v,e1,rfl,rfl⟩:=val1_some h
     obtain⟨v',r1,r2⟩:=field_run (P:=P) S e1 (evA_run hv0 ht)
     exact wp_val (by simp only[execOp,ho]) r1 hlr S r2 g
   · cases h
 · -- field
   rename_i ty x f ho
   split at h
   · rename_i cs fields hv0 hu
     split at h
     · rename_i fl hf
       obtain⟨v,e1,rfl,rfl⟩:=val1_some h
       have hvx:=evA_run hv0 ht
       generalize hxe:a.eval x=xv at hvx
       cases hvx with
       | agg xs xs' hx ex eo =>
        obtain⟨v',r1,r2⟩:=part_run (P:=P) e1 ⟨hx,ex⟩ eo w
        have r3:(Instr.field ty (.agg ⟨xs'⟩) f).run P w = .ok v' w:=by
         simp only[Instr.field,Sem.run_bind,run_underlying hu,Result.andThen_ok,hf,asAgg,Sem.run_pure,r1]
        exact wp_val (by simp only[execOp,ho,hxe]) r3 hlr S r2 g
     · cases h
   · cases h
 · -- indexAddr
   rename_i ty x i ho
   split at h
   · rename_i v0 u0 hv0 hu0
     obtain⟨v,e1,rfl,rfl⟩:=val1_some h
     obtain⟨v',r1,r2⟩:=index_run (P:=P) e1 (evA_run hv0 ht) (evA_run hu0 ht) w
     exact wp_val (by simp only[execOp,ho]) r1 hlr S r2 g
   · cases h
 · -- index
   rename_i ty x i ho
   split at h
   · rename_i cs k n hv0 hu0
     split at h
     · rename_i len e hu
       split at h
       · rename_i sz hsz
         split at h
         · rename_i hb
           obtain⟨v,e1,rfl,rfl⟩:=val1_some h
           have hvx:=evA_run hv0 ht
           have hvi:=evA_run hu0 ht
           generalize hxe:a.eval x=xv at hvx
           generalize hie:a.eval i=iv at hvi
           cases hvi
           cases hvx with
           | agg xs xs' hx ex eo =>
            obtain⟨v',r1,r2⟩:=part_run (P:=P) e1 ⟨hx,ex⟩ eo w
            have r3:(Instr.index ty (.agg ⟨xs'⟩) (.int k n)).run P w = .ok v' w:=by
             simp only[Instr.index,asIntOf,Sem.run_bind,run_underlying hu,Result.andThen_ok,Sem.run_pure]
             rw[if_pos hb]
             simp only[Sem.run_bind,run_sizeOf hsz,Result.andThen_ok,r1]
            exact wp_val (by simp only[execOp,ho,hxe,hie]) r3 hlr S r2 g
         · cases h
       · cases h
     · cases h
   · rename_i s k n hv0 hu0
     obtain⟨v,e1,rfl,rfl⟩:=val1_some h
     obtain⟨e2,e3⟩:=ifGround_some e1
     have hvx:=(evA_run hv0 ht).ground_eq rfl
     have hvi:=(evA_run hu0 ht).ground_eq rfl
     have r1:=pureRun_run P _ _ e2 w
     exact wp_val (by simp only[execOp,ho,hvx,hvi]) r1 hlr S (ground_VR L v e3) g
   · cases h
 · -- lookup
   rename_i ty x i ok ho
   split at h
   · rename_i v0 u0 hv0 hu0
     obtain⟨v,e1,rfl,rfl⟩:=val1_some h
     obtain⟨v',r1,r2⟩:=lookup_run (P:=P) S e1 (evA_run hv0 ht) (evA_run hu0 ht)
     exact wp_val (by simp only[execOp,ho]) r1 hlr S r2 g
   · cases h
 · -- mapUpdate
   rename_i ty m k x ho
   split at h
   · rename_i v0 u0 q0 hv0 hu0 hq0
     obtain⟨e1,rfl⟩:=skip1_some h
     obtain⟨w',r1,r2⟩:=mapPut_run (P:=P) S e1 (evA_run hv0 ht) (evA_run hu0 ht) (evA_run hq0 ht)
     exact wp_skip' (by simp only[execOp,ho]) r1 hlr r2 g
   · cases h
 · -- insert
   rename_i ty m k x ho
   split at h
   · rename_i v0 u0 q0 hv0 hu0 hq0
     obtain⟨e1,rfl⟩:=skip1_some h
     obtain⟨w',r1,r2⟩:=mapPut_run (P:=P) S e1 (evA_run hv0 ht) (evA_run hu0 ht) (evA_run hq0 ht)
     exact wp_skip' (by simp only[execOp,ho]) r1 hlr r2 g
   · cases h
 · -- extract
   rename_i x i ho
   split at h
   · rename_i vs hv0
     obtain⟨v,e1,rfl,rfl⟩:=val1_some h
     have hvx:=evA_run hv0 ht
     generalize hxe:a.eval x=xv at hvx
     cases hvx with
     | tuple xs xs' hx ex =>
      obtain⟨v',r1,r2⟩:=LR.get? ⟨hx,ex⟩ e1
      have r3:(Instr.extract (.tuple ⟨xs'⟩) i).run P w = .ok v' w:=by
       simp only[Instr.extract,List.getElem?_toArray,r1,Sem.run_pure]
      exact wp_val (by simp only[execOp,ho,hxe]) r3 hlr S r2 g
   · cases h
 · -- call
   rename_i c ho
   exact call_run hc S h ht ho g
 · -- panic
   rename_i x ho
   split at h
   · rename_i ty v0 hv0
     simp only[Option.some.injEq,Prod.mk.injEq]at h
     obtain⟨rfl,rfl⟩:=h
     have hvx:=evA_run hv0 ht
     generalize hxe:a.eval x=xv at hvx
     cases hvx with
     | iface _ _ v' hv =>
      have he:(execOp a.eval o).run P w = .halt (.panic (.iface ty v')) w:=by
       simp only[execOp,ho,hxe,Instr.panic,Sem.run_bind,run_goPanic,Result.andThen_halt]
      unfold Oper.wp;rw[he,Oper.upon_panic]
      exact g L _ w hlr S (.iface ty _ _ hv)
   · cases h
 · cases h
end Go.Vm
