/- What is proved: the run's laws as rewrites, one for each kind of code and of operation; no theorem of the program. What is proved: summaries of functions that touch no memory that was there, and the model's call of a function from the machine's run; no theorem of the program. What is proved: a slice that a law is handed, as an object of the machine that is only read; no theorem of the program. What is proved: rules by which a run is walked: what is asked behind a piece of code is asked of the piece; no theorem of the program. What is proved: what the machine's operations do with a list of whole numbers that grows; no theorem of the program. What is proved: rules that cut a walk in two; no theorem of the program. What is proved: the larger of two whole numbers. -/
import Derived.Test.YtpfjogcjmlhhfaaGreatDoorX2
import Derived.IntWalk
import Derived.Deep.Slices
import Derived.Deep.Strs
import Derived.ChangeArms
import Derived.WideShapes
set_option maxRecDepth 100000
set_option maxHeartbeats 4000000
set_option linter.unusedSimpArgs false
set_option linter.unusedVariables false
set_option linter.unusedSectionVars false
namespace Go.Vm
open Go.RowKit
variable {P:Program} {E:Hooks}
inductive Held {α:Type} (x:α):Type where
 | mk
abbrev held {α:Type} (x:α):Held x := .mk
def thenA (r:ResA)(k:St→Heap→ResA)(_:Held k):ResA :=
 match r with
 | some (.normal,s,H)=>k s H
 | x=>x
def blockA (id:Nat)(r:ResA):ResA :=
 match r with
 | some (.exit id', s, H) => match Nat.beq id' id with
  | true=>some (.normal,s,H)
  | false=>some (.exit id',s,H)
 | x=>x
def condA (b:Option Value)(x y:ResA)(_:Held x)(_:Held y):ResA :=
 match b with
 | some (.bool true)=>x
 | some (.bool false)=>y
 | _=>none
def onlyNormal (r:ResA):ResA :=
 match r with
 | some (.normal,s,H)=>some (.normal,s,H)
 | _=>none
def stepO (r:Option (Out × Heap))(s:St)(k:Value→Heap→ResA)(_:Held k):ResA :=
 match r with
 | none=>none
 | some (.pan v,H)=>some (.pan v,s,H)
 | some (.val v,H)=>k v H
@[simp] theorem thenA_normal (s:St)(H:Heap)(k:St→Heap→ResA)(h:Held k):thenA (some (.normal,s,H)) k h=k s H:=id rfl
@[simp] theorem thenA_ret (s:St)(H:Heap)(k:St→Heap→ResA)(h:Held k):thenA (some (.ret,s,H)) k h=some (.ret,s,H):=id rfl
@[simp] theorem thenA_exit (i:Nat)(s:St)(H:Heap)(k:St→Heap→ResA)(h:Held k):thenA (some (.exit i,s,H)) k h=some (.exit i,s,H):=id rfl
@[simp] theorem thenA_goto (i:Nat)(s:St)(H:Heap)(k:St→Heap→ResA)(h:Held k):thenA (some (.goto i,s,H)) k h=some (.goto i,s,H):=id rfl
@[simp] theorem thenA_pan (v:Value)(s:St)(H:Heap)(k:St→Heap→ResA)(h:Held k):thenA (some (.pan v,s,H)) k h=some (.pan v,s,H):=id rfl
@[simp] theorem condA_true (x y:ResA)(hx:Held x)(hy:Held y):condA (some (.bool true)) x y hx hy=x:=id rfl
@[simp] theorem condA_false (x y:ResA)(hx:Held x)(hy:Held y):condA (some (.bool false)) x y hx hy=y:=id rfl
@[simp] theorem blockA_exit (id id':Nat)(s:St)(H:Heap):blockA id (some (.exit id',s,H))=if id'=id then some (.normal,s,H)else some (.exit id',s,H):=by
 unfold blockA
 cases hb:Nat.beq id' id with
 | true=>have:=Nat.eq_of_beq_eq_true hb;simp[hb,this]
 | false=>have:=Nat.ne_of_beq_eq_false hb;simp[hb,this]
@[simp] theorem blockA_normal (i:Nat)(s:St)(H:Heap):blockA i (some (.normal,s,H))=some (.normal,s,H):=id rfl
@[simp] theorem blockA_ret (i:Nat)(s:St)(H:Heap):blockA i (some (.ret,s,H))=some (.ret,s,H):=id rfl
@[simp] theorem blockA_pan (i:Nat)(v:Value)(s:St)(H:Heap):blockA i (some (.pan v,s,H))=some (.pan v,s,H):=id rfl
@[simp] theorem stepO_val (v:Value)(H:Heap)(s:St)(k:Value→Heap→ResA)(h:Held k):stepO (some (.val v,H)) s k h=k v H:=id rfl
@[simp] theorem stepO_pan (v:Value)(H:Heap)(s:St)(k:Value→Heap→ResA)(h:Held k):stepO (some (.pan v,H)) s k h=some (.pan v,s,H):=id rfl
@[simp] theorem onlyNormal_normal (s:St)(H:Heap):onlyNormal (some (.normal,s,H))=some (.normal,s,H):=id rfl
@[simp] theorem code_skip (s:St)(H:Heap):(run P E).code .skip s H=some (.normal,s,H):=by rw[run_code];rfl
@[simp] theorem code_ret (s:St)(H:Heap):(run P E).code .ret s H=some (.ret,s,H):=by rw[run_code];rfl
@[simp] theorem code_exit (i:Nat)(s:St)(H:Heap):(run P E).code (.exit i) s H=some (.exit i,s,H):=by rw[run_code];rfl
@[simp] theorem code_seq (a b:Code)(s:St)(H:Heap):(run P E).code (.seq a b) s H=thenA ((run P E).code a s H) ((run P E).code b) (held _):=by rw[run_code];rfl
@[simp] theorem code_cond (c:Operand)(a b:Code)(s:St)(H:Heap):(run P E).code (.cond c a b) s H=condA (evA s.t c) ((run P E).code a s H) ((run P E).code b s H) (held _) (held _):=by rw[run_code];rfl
@[simp] theorem code_block (id:Nat)(c:Code)(s:St)(H:Heap):(run P E).code (.block id c) s H=blockA id ((run P E).code c s H):=by rw[run_code];rfl
theorem code_loop (c:Code)(s:St)(H:Heap):(run P E).code (.loop c) s H=thenA ((run P E).code c s H) ((run P E).code (.loop c)) (held _):=by rw[run_code];rfl
@[simp] theorem code_text (id:Nat)(ops:Array Oper)(s:St)(H:Heap):(run P E).code (.region id ops false) s H=exList P (run P E).call ops.toList ops.toList s H:=by rw[run_code];rfl
@[simp] theorem exList_nil (call:CallA)(ops:List Oper)(s:St)(H:Heap):exList P call ops [] s H=some (.normal,s,H):=id rfl
def stepD (d:Option Call)(r:Option (Out × Heap))(s:St)(dst:Option Tmp)(H:Heap)(k:St→Heap→ResA)(_:Held r)(_:Held k):ResA :=
 match d with
 | some c => match exDefer c s.t with
  | some x=>k ⟨putA s.t dst undef,x :: s.ds⟩ H
  | none=>none
 | none=>stepO r s (fun v H'=>k ⟨putA s.t dst v,s.ds⟩ H') (held _)
@[simp] theorem stepD_none (r:Option (Out × Heap))(s:St)(dst:Option Tmp)(H:Heap)(k:St→Heap→ResA)(hr:Held r)(hk:Held k):stepD none r s dst H k hr hk=stepO r s (fun v H'=>k ⟨putA s.t dst v,s.ds⟩ H') (held _):=id rfl
def deferA (x:Option (FuncId × List Value))(s:St)(dst:Option Tmp)(H:Heap)(k:St→Heap→ResA)(_:Held k):ResA :=
 match x with
 | some x=>k ⟨putA s.t dst undef,x :: s.ds⟩ H
 | none=>none
@[simp] theorem deferA_some (x:FuncId × List Value)(s:St)(dst:Option Tmp)(H:Heap)(k:St→Heap→ResA)(hk:Held k):deferA (some x) s dst H k hk=k ⟨putA s.t dst undef,x :: s.ds⟩ H:=id rfl
@[simp] theorem stepD_some (c:Call)(r:Option (Out × Heap))(s:St)(dst:Option Tmp)(H:Heap)(k:St→Heap→ResA)(hr:Held r)(hk:Held k):stepD (some c) r s dst H k hr hk=deferA (exDefer c s.t) s dst H k (held _):=id rfl
@[simp] theorem exList_plain (call:CallA)(ops rest:List Oper)(dst:Option Tmp)(op:Op)(ty:TypeId)(pos:String)(after:Array Edge)(s:St)(H:Heap) :
  exList P call ops (⟨dst,op,ty,pos,after,none⟩ :: rest) s H=stepD (deferOf op) (exOp P call op s.t H) s dst H (exList P call ops rest) (held _) (held _):=by
 simp only[exList,wantA]
 cases deferOf op with
 | none=>rfl
 | some c=>rfl
def isB (w:Bool):Value→Bool
 | .bool b=>b == w
 | _=>false
@[simp] theorem isB_bool (w b:Bool):isB w (.bool b)=(b == w):=id rfl
@[simp] theorem isB_undef (w:Bool):isB w undef=false:=id rfl
def dstOf (ops:List Oper)(j:Nat):Option Nat:=(ops[j]?).bind (·.dst)
def guardD (d:Option Nat)(w:Bool)(t:List Value):Bool :=
 match d with
 | some d=>isB w (t.getD d undef)
 | none=>false
def guardOf (ops:List Oper)(j:Nat)(w:Bool)(t:List Value):Bool:=guardD (dstOf ops j) w t
theorem guardOf_eq (ops:List Oper)(o:Oper)(j:Nat)(w:Bool)(t:List Value)(h:o.guard=some (j,w)):wantA ops o t=guardOf ops j w t:=by
 simp only[wantA,h,guardOf,dstOf,guardD]
 cases (ops[j]?).bind (·.dst)with
 | none=>rfl
 | some d =>
  simp only[]
  rw[List.getD_eq_getElem?_getD]
  cases t[d]? with
  | none=>rfl
  | some v=>cases v<;>rfl
@[simp] theorem exList_guard (call:CallA)(ops rest:List Oper)(dst:Option Tmp)(op:Op)(ty:TypeId)(pos:String)(after:Array Edge)(j:Nat)(w:Bool)(s:St)(H:Heap) :
  exList P call ops (⟨dst,op,ty,pos,after,some (j,w)⟩ :: rest) s H =
   condA (some (.bool (guardOf ops j w s.t))) (stepD (deferOf op) (exOp P call op s.t H) s dst H (exList P call ops rest) (held _) (held _)) (exList P call ops rest ⟨putA s.t dst undef,s.ds⟩ H) (held _) (held _):=by
 have e:wantA ops ⟨dst,op,ty,pos,after,some (j,w)⟩ s.t=guardOf ops j w s.t:=guardOf_eq ops _ j w s.t rfl
 simp only[exList,e]
 cases guardOf ops j w s.t with
 | true=>cases deferOf op<;>rfl
 | false=>rfl
def quiet (P:Program)(ops:List Oper):Bool :=
 (match planOf P ops with | some pl=>pl.all (·.isNone) | none=>false) && ops.all fun o=>(deferOf o.op).isNone
theorem stableAll_quiet {call:CallA}{ops:List Oper}{Ms:List Heap}:∀ {pl:List (Option (Nat × Nat))}{os:List Oper}{tr:List (List Value × Value)},pl.all (·.isNone)=true→stableAll P call ops Ms pl os tr=true
 | [],_,_,_=>by simp[stableAll]
 | some _ :: _,_,_,h=>by simp at h
 | none :: pl,[],_,h=>by simp[stableAll]
 | none :: pl,_ :: _,[],h=>by simp[stableAll]
 | none :: pl, _ :: _, _ :: _, h => by
  simp only[stableAll]
  exact stableAll_quiet (by simpa using h)
theorem exText_list {call:CallA}{ops:List Oper}:∀ (rest:List Oper)(s:St)(H:Heap),(rest.all fun o=>(deferOf o.op).isNone)=true →
  onlyNormal (exList P call ops rest s H)=match exText P call ops rest s.t H with | some (_,_,t',H2)=>some (.normal,⟨t',s.ds⟩,H2) | none=>none
 | [],s,H,_=>rfl
 | o :: rest, s, H, h => by
  simp only[List.all_cons,Bool.and_eq_true,Option.isNone_iff_eq_none]at h
  have ih:=exText_list (call:=call) (ops:=ops) rest
  simp only[exList,exText,exOne,h.1]
  cases hw:wantA ops o s.t with
  | false =>
   simp only[]
   rw[ih ⟨putA s.t o.dst undef,s.ds⟩ H h.2]
   simp only[]
   cases exText P call ops rest (putA s.t o.dst undef) H with
   | none=>rfl
   | some q=>obtain⟨a,b,c,d⟩:=q;simp only[];cases isW P o.op<;>rfl
  | true =>
   simp only[]
   cases ho:exOp P call o.op s.t H with
   | none=>rfl
   | some p =>
    obtain⟨out,H1⟩:=p
    cases out with
    | pan v=>rfl
    | val v =>
     simp only[]
     rw[ih ⟨putA s.t o.dst v,s.ds⟩ H1 h.2]
     simp only[]
     cases exText P call ops rest (putA s.t o.dst v) H1 with
     | none=>rfl
     | some q=>obtain⟨a,b,c,d⟩:=q;simp only[];cases isW P o.op<;>rfl
theorem code_draw (id:Nat)(ops:Array Oper)(s:St)(H:Heap)(h:quiet P ops.toList=true):(run P E).code (.region id ops true) s H=onlyNormal (exList P (run P E).call ops.toList ops.toList s H):=by
 unfold quiet at h
 rw[Bool.and_eq_true]at h
 rw[run_code,exText_list ops.toList s H h.2]
 show exDraw P (run P E).call ops.toList s H=_
 unfold exDraw
 cases hp:planOf P ops.toList with
 | none=>rw[hp]at h;simp at h
 | some pl =>
  rw[hp]at h
  simp only[]
  cases exText P (run P E).call ops.toList ops.toList s.t H with
  | none=>rfl
  | some q =>
   obtain⟨tr,hs,t',H2⟩:=q
   simp only[]
   rw[stableAll_quiet h.1]
theorem call_eq {f : FuncId} {fn : Func} {c : Code} (hf : P.funcs[f]? = some fn) (hb : fn.body = some c) (hn : (fn.name == "runtime.NumGoroutine") = false) (hE : E.has f = false) (args : List Value) (H : Heap) :
  (run P E).call f args H=exBody P E (run P E) fn c args H:=by
 rw[run_call];unfold exCall;rw[hE];simp only[hf,hb,hn]
def bodyA (P:Program)(E:Hooks)(r:Runs)(rs:List ResultVar)(x:ResA):Option (Out × Heap) :=
 match x with
 | some (e, s, H') => match catAt P E e s.ds with
  | some (q, as, v) => match catRun P r q as v H' with
   | some H2=>(exResults P rs s.t H2).map fun l=>(.val (tupleOf l),H2)
   | none=>none
  | none => match exLeave P E r s.ds H' with
   | some H2 => match e with
    | .pan v=>match recs P s.ds with | true=>none | false=>some (.pan v,H2)
    | .normal | .ret=>(exResults P rs s.t H2).map fun l=>(.val (tupleOf l),H2)
    | _=>none
   | none=>none
 | none=>none
@[simp] theorem bodyA_ret (r:Runs)(rs:List ResultVar)(t:List Value)(H:Heap):bodyA P E r rs (some (.ret,⟨t,[]⟩,H))=(exResults P rs t H).map fun l=>(.val (tupleOf l),H):=id rfl
@[simp] theorem bodyA_normal (r:Runs)(rs:List ResultVar)(t:List Value)(H:Heap):bodyA P E r rs (some (.normal,⟨t,[]⟩,H))=(exResults P rs t H).map fun l=>(.val (tupleOf l),H):=id rfl
@[simp] theorem bodyA_pan (r:Runs)(rs:List ResultVar)(v:Value)(t:List Value)(H:Heap):bodyA P E r rs (some (.pan v,⟨t,[]⟩,H))=some (.pan v,H):=id rfl
theorem call_body {f : FuncId} {fn : Func} {c : Code} (hf : P.funcs[f]? = some fn) (hb : fn.body = some c) (hn : (fn.name == "runtime.NumGoroutine") = false) (hE : E.has f = false) (args : List Value) (H : Heap) :
  (run P E).call f args H=bodyA P E (run P E) fn.results.toList ((run P E).code c ⟨slotsAt fn args,[]⟩ H):=by
 rw[call_eq hf hb hn hE];rfl
@[simp] theorem tupleOf_nil:tupleOf [] = .tuple #[]:=id rfl
@[simp] theorem tupleOf_one (v:Value):tupleOf [v]=v:=id rfl
@[simp] theorem tupleOf_two (v u:Value)(l:List Value):tupleOf (v :: u :: l) = .tuple ⟨v :: u :: l⟩:=id rfl
end Go.Vm
namespace Go.Vm
open Go.RowKit
variable {P:Program} {E:Hooks} {call:CallA} {t:List Value} {H:Heap}
def rd (t:List Value)(k:Nat):Value:=t.getD k undef
def Fr (t:List Value):List (Nat × Value)→List Value
 | []=>t
 | (k,v) :: l=>(Fr t l).set k v
def look (t:List Value)(k:Nat):List (Nat × Value)→Value
 | []=>rd t k
 | (k',v) :: l=>if k=k' then v else look t k l
def Bs (n:Nat)(args:List Value):List Value:=args++List.replicate (n - args.length) undef
@[simp] theorem Fr_set (l:List (Nat × Value))(k:Nat)(v:Value):(Fr t l).set k v=Fr t ((k,v) :: l):=id rfl
@[simp] theorem Fr_len (l:List (Nat × Value)):(Fr t l).length=t.length:=by
 induction l with
 | nil=>rfl
 | cons p l ih=>obtain⟨k,v⟩:=p;simp only[Fr,List.length_set,ih]
theorem rd_Fr (l:List (Nat × Value))(k:Nat)(h:k<t.length):rd (Fr t l) k=look t k l:=by
 induction l with
 | nil=>rfl
 | cons p l ih =>
  obtain⟨k',v⟩:=p
  simp only[look,Fr]
  rw[← ih]
  unfold rd
  rw[List.getD_eq_getElem?_getD,List.getElem?_set,List.getD_eq_getElem?_getD]
  by_cases e:k'=k
  · subst e
    rw[if_pos rfl,if_pos rfl,if_pos (by rw[Fr_len];exact h)]
    rfl
  · rw[if_neg e,if_neg (fun h=>e h.symm)]
@[simp] theorem look_nil (k:Nat):look t k []=rd t k:=id rfl
@[simp] theorem look_cons (k k':Nat)(v:Value)(l:List (Nat × Value)):look t k ((k',v) :: l)=if k=k' then v else look t k l:=id rfl
@[simp] theorem rd_Bs (n:Nat)(args:List Value)(k:Nat):rd (Bs n args) k=rd args k:=by
 unfold rd Bs
 rw[List.getD_eq_getElem?_getD,List.getD_eq_getElem?_getD]
 rcases Nat.lt_or_ge k args.length with h | h
 · rw[List.getElem?_append_left h]
 · rw[List.getElem?_append_right h,List.getElem?_eq_none h,List.getElem?_replicate]
   split<;>rfl
theorem len_Bs (n:Nat)(args:List Value)(h:args.length≤n):(Bs n args).length=n:=by
 simp[Bs];omega
@[simp] theorem rd_zero (v:Value)(l:List Value):rd (v :: l) 0=v:=id rfl
@[simp] theorem rd_succ (v:Value)(l:List Value)(k:Nat):rd (v :: l) (k+1)=rd l k:=id rfl
@[simp] theorem rd_FrBs (n:Nat)(args:List Value)(l:List (Nat × Value))(k:Nat)(h:args.length≤n)(hk:k<n):rd (Fr (Bs n args) l) k=look args k l:=by
 rw[rd_Fr l k (by rw[len_Bs n args h];exact hk)]
 induction l with
 | nil=>simp
 | cons p l ih=>obtain⟨k',v⟩:=p;simp only[look];rw[ih]
@[simp] theorem evA_tmp (k:Nat):evA t (.tmp k)=some (rd t k):=id rfl
@[simp] theorem evA_func (f:FuncId):evA t (.func f)=some (.func (.func f) #[] #[]):=id rfl
@[simp] theorem evA_const (v:Value):evA t (.const v)=if ground v=true then some v else none:=by
 simp only[evA];split<;>simp_all
@[simp] theorem ground_bool (b:Bool):ground (.bool b)=true:=id rfl
@[simp] theorem ground_int (k:IntKind)(n:Int):ground (.int k n)=true:=id rfl
@[simp] theorem ground_string (s:ByteArray):ground (.string s)=true:=id rfl
@[simp] theorem ground_pnil:ground (.pointer none)=true:=id rfl
@[simp] theorem ground_ptr (a:Addr):ground (.pointer (some a))=false:=id rfl
@[simp] theorem ground_snil (l c:Nat):ground (.slice none l c)=true:=id rfl
@[simp] theorem ground_mnil:ground (.map none)=true:=id rfl
@[simp] theorem ground_nilIface:ground .nilIface=true:=id rfl
@[simp] theorem evL_nil:evL t []=some []:=id rfl
@[simp] theorem evL_cons (x:Operand)(xs:List Operand):evL t (x :: xs)=(evA t x).bind fun v=>(evL t xs).map (v :: ·):=by
 simp only[evL];cases evA t x<;>cases evL t xs<;>rfl
@[simp] theorem evO_none:evO t none=some none:=id rfl
@[simp] theorem evO_some (x:Operand):evO t (some x)=(evA t x).map some:=id rfl
@[simp] theorem evP_nil:evP t []=some []:=id rfl
@[simp] theorem evP_cons (i:Nat)(x:Operand)(xs:List (Nat × Operand)):evP t ((i,x) :: xs)=(evA t x).bind fun v=>(evP t xs).map ((i,v) :: ·):=by
 simp only[evP];cases evA t x<;>cases evP t xs<;>rfl
@[simp] theorem putA_some (d:Nat)(v:Value):putA t (some d) v=t.set d v:=id rfl
@[simp] theorem putA_none (v:Value):putA t none v=t:=id rfl
@[simp] theorem val1_some' (v:Value):val1 (some v) H=some (.val v,H):=id rfl
@[simp] theorem val2_some' (v:Value):val2 (some (v,H))=some (.val v,H):=id rfl
@[simp] theorem skip1_some':skip1 (some H)=some (.val undef,H):=id rfl
@[simp] theorem ifGround_bool (b:Bool):ifGround (some (.bool b))=some (.bool b):=id rfl
@[simp] theorem ifGround_int (k:IntKind)(n:Int):ifGround (some (.int k n))=some (.int k n):=id rfl
@[simp] theorem op_move (x:Operand):exOp P call (.move x) t H=val1 (evA t x) H:=id rfl
@[simp] theorem op_assign (x:Operand):exOp P call (.assign x) t H=val1 (evA t x) H:=id rfl
def pickA (c:Option Value)(a b:Option Value)(H:Heap):Option (Out × Heap) :=
 match c with | some (.bool true)=>val1 a H | some (.bool false)=>val1 b H | _=>none
@[simp] theorem op_pick (c a b:Operand):exOp P call (.pick c a b) t H=pickA (evA t c) (evA t a) (evA t b) H:=by
 simp only[exOp];unfold pickA
 cases evA t c with
 | none=>rfl
 | some v=>cases v<;>first | rfl | (rename_i b;cases b<;>rfl)
@[simp] theorem pickA_bool (b:Bool)(x y:Value):pickA (some (.bool b)) (some x) (some y) H=some (.val (if b=true then x else y),H):=by cases b<;>rfl
@[simp] theorem op_alloc (ty:TypeId):exOp P call (.alloc ty) t H=val2 (exAlloc P ty H):=id rfl
@[simp] theorem op_box (ty:TypeId)(x:Operand):exOp P call (.box ty x) t H=val2 ((evA t x).bind fun v=>exBox P ty v H):=by
 simp only[exOp];cases evA t x<;>rfl
@[simp] theorem op_build (ty:TypeId)(ps:Array (Nat × Operand)):exOp P call (.build ty ps) t H=val1 ((evP t ps.toList).bind fun l=>exBuild P ty l) H:=by
 simp only[exOp];cases evP t ps.toList<;>rfl
@[simp] theorem op_buildSlice (ty:TypeId)(n:Nat)(ps:Array (Nat × Operand)):exOp P call (.buildSlice ty n ps) t H=val2 ((evP t ps.toList).bind fun l=>exBuildSlice P ty n l H):=by
 simp only[exOp];cases evP t ps.toList<;>rfl
@[simp] theorem op_load (ty:TypeId)(x:Operand):exOp P call (.load ty x) t H=val1 ((evA t x).bind fun v=>exLoad P ty v H) H:=by
 simp only[exOp];cases evA t x<;>rfl
@[simp] theorem op_store (ty:TypeId)(a x:Operand):exOp P call (.store ty a x) t H=skip1 ((evA t a).bind fun v=>(evA t x).bind fun u=>exStore P ty v u H):=by
 simp only[exOp];cases evA t a<;>cases evA t x<;>rfl
def nilA (v:Option Value)(H:Heap):Option (Out × Heap) :=
 match v with
 | some (.pointer (some a))=>some (.val (.pointer (some a)),H)
 | some (.func (.func f) a c)=>some (.val (.func (.func f) a c),H)
 | _=>none
@[simp] theorem op_nilCheck (x:Operand):exOp P call (.nilCheck x) t H=nilA (evA t x) H:=id rfl
@[simp] theorem nilA_ptr (a:Addr):nilA (some (.pointer (some a))) H=some (.val (.pointer (some a)),H):=id rfl
@[simp] theorem op_binOp (op:BinOp)(ty r:TypeId)(x y:Operand):exOp P call (.binOp op ty x y r) t H=val1 ((evA t x).bind fun a=>(evA t y).bind fun b=>exBin P op ty x y a b) H:=by
 simp only[exOp];cases evA t x<;>cases evA t y<;>rfl
def unA (P:Program)(op:UnOp)(v:Option Value):Option Value :=
 match v with
 | some a=>match ground a with | true=>ifGround (pureRun P (Op.unary op a)) | false=>none
 | none=>none
@[simp] theorem op_unOp (op:UnOp)(ty:TypeId)(x:Operand):exOp P call (.unOp op ty x) t H=val1 (unA P op (evA t x)) H:=by
 simp only[exOp];unfold unA
 cases evA t x with
 | none=>rfl
 | some a=>simp only[];cases ground a<;>rfl
@[simp] theorem unA_not (b:Bool):unA P .not (some (.bool b))=some (.bool !b):=id rfl
def asA (P:Program)(v:Option Value)(xt ty:TypeId)(ok:Bool):Option Value :=
 match v with
 | some a=>match ground a with | true=>ifGround (pureRun P (Instr.typeAssert a xt ty ok)) | false=>none
 | none=>none
@[simp] theorem op_typeAssert (x:Operand)(xt ty:TypeId)(ok:Bool):exOp P call (.typeAssert x xt ty ok) t H=val1 (asA P (evA t x) xt ty ok) H:=by
 simp only[exOp];unfold asA
 cases evA t x with
 | none=>rfl
 | some a=>simp only[];cases ground a<;>rfl
@[simp] theorem op_convert (s d:TypeId)(x:Operand):exOp P call (.convert s d x) t H=val2 ((evA t x).bind fun v=>exConvert P s d v H):=by
 simp only[exOp];cases evA t x<;>rfl
def ifaceA (P:Program)(ty:TypeId)(v:Option Value)(H:Heap):Option (Out × Heap) :=
 match v with
 | some v => match P.underlying ty with
  | some (.interface _) | none=>none
  | some _=>some (.val (.iface ty v),H)
 | none=>none
@[simp] theorem op_makeInterface (ty:TypeId)(x:Operand):exOp P call (.makeInterface ty x) t H=ifaceA P ty (evA t x) H:=id rfl
@[simp] theorem op_makeFunc (f:FuncId)(a c:Array Operand):exOp P call (.makeFunc (.func f) a c) t H=((evL t a.toList).bind fun x=>(evL t c.toList).map fun y=>(.val (.func (.func f) ⟨x⟩ ⟨y⟩),H)):=by
 simp only[exOp];cases evL t a.toList<;>cases evL t c.toList<;>rfl
@[simp] theorem op_makeMap (ty:TypeId):exOp P call (.makeMap ty none) t H=some (.val (.map (some H.n)),H.push (.map [])):=id rfl
@[simp] theorem op_slice (ty:TypeId)(x:Operand)(lo hi mx:Option Operand):exOp P call (.slice ty x lo hi mx) t H =
  val2 ((evA t x).bind fun v=>(evO t lo).bind fun l=>(evO t hi).bind fun h=>(evO t mx).bind fun m=>exSlice P ty v l h m H):=by
 simp only[exOp];cases evA t x<;>cases evO t lo<;>cases evO t hi<;>cases evO t mx<;>rfl
@[simp] theorem op_fieldAddr (s:TypeId)(x:Operand)(f:Nat):exOp P call (.fieldAddr s x f) t H=val1 ((evA t x).bind fun v=>exField P s v f H) H:=by
 simp only[exOp];cases evA t x<;>rfl
def fieldA (P:Program)(ty:TypeId)(v:Option Value)(f:Nat):Option Value :=
 match v with
 | some (.agg cs) => match P.underlying ty with
  | some (.struct fields) => match fields[f]? with
   | some fl=>partA P fl.type cs.toList fl.offset
   | none=>none
  | _=>none
 | _=>none
@[simp] theorem op_field (ty:TypeId)(x:Operand)(f:Nat):exOp P call (.field ty x f) t H=val1 (fieldA P ty (evA t x) f) H:=by
 simp only[exOp];unfold fieldA
 cases evA t x with
 | none=>rfl
 | some v =>
  cases v<;>first | rfl | skip
  rename_i cs
  cases P.underlying ty with
  | none=>rfl
  | some d => cases d <;> first | rfl | skip
              rename_i fields
              simp only[]
              cases fields[f]?<;>rfl
@[simp] theorem op_indexAddr (ty:TypeId)(x i:Operand):exOp P call (.indexAddr ty x i) t H=val1 ((evA t x).bind fun v=>(evA t i).bind fun k=>exIndex P ty v k) H:=by
 simp only[exOp];cases evA t x<;>cases evA t i<;>rfl
@[simp] theorem op_lookup (ty:TypeId)(x i:Operand)(ok:Bool):exOp P call (.lookup ty x i ok) t H=val1 ((evA t x).bind fun v=>(evA t i).bind fun k=>exLookup P ty v k ok H) H:=by
 simp only[exOp];cases evA t x<;>cases evA t i<;>rfl
@[simp] theorem op_mapUpdate (ty:TypeId)(m k x:Operand):exOp P call (.mapUpdate ty m k x) t H=skip1 ((evA t m).bind fun v=>(evA t k).bind fun q=>(evA t x).bind fun u=>exMapPut P ty v q u H):=by
 simp only[exOp];cases evA t m<;>cases evA t k<;>cases evA t x<;>rfl
def extractA (v:Option Value)(i:Nat):Option Value :=
 match v with
 | some (.tuple vs)=>vs.toList[i]?
 | _=>none
@[simp] theorem op_extract (x:Operand)(i:Nat):exOp P call (.extract x i) t H=val1 (extractA (evA t x) i) H:=by
 simp only[exOp];unfold extractA
 cases evA t x with
 | none=>rfl
 | some v=>cases v<;>rfl
@[simp] theorem extractA_tuple (vs:List Value)(i:Nat):extractA (some (.tuple ⟨vs⟩)) i=vs[i]? := id rfl
def callV (call:CallA)(f:Option Value)(args:List Value)(H:Heap):Option (Out × Heap) :=
 match f with
 | some (.func (.func g) first captured)=>call g (first.toList++args++captured.toList) H
 | _=>none
@[simp] theorem op_call (f:Operand)(args:Array Operand)(ts:Array TypeId):exOp P call (.call ⟨.value f,args,ts⟩) t H=(evL t args.toList).bind fun l=>callV call (evA t f) l H:=by
 simp only[exOp,exCallOp];cases evL t args.toList<;>rfl
@[simp] theorem callV_func (g:FuncId)(a c:List Value)(args:List Value):callV call (some (.func (.func g) ⟨a⟩ ⟨c⟩)) args H=call g (a++args++c) H:=id rfl
def callI (P:Program)(call:CallA)(r:Option Value)(m:String)(args:List Value)(H:Heap):Option (Out × Heap) :=
 match r with
 | some (.iface t v)=>(exMethod P t m).bind fun f=>call f (v :: args) H
 | _=>none
@[simp] theorem op_invoke (r:Operand)(m:String)(args:Array Operand)(ts:Array TypeId):exOp P call (.call ⟨.invoke r m,args,ts⟩) t H=(evL t args.toList).bind fun l=>callI P call (evA t r) m l H:=by
 simp only[exOp,exCallOp]
 cases evL t args.toList with
 | none=>rfl
 | some l =>
  simp only[Option.bind_some]
  unfold callI
  cases evA t r with
  | none=>rfl
  | some v => cases v <;> first | rfl | skip
              rename_i ty v
              simp only[]
              cases exMethod P ty m<;>rfl
@[simp] theorem op_builtin (b:Builtin)(args:Array Operand)(ts:Array TypeId):exOp P call (.call ⟨.builtin b,args,ts⟩) t H=(evL t args.toList).bind fun l=>exBuiltin P b ts.toList l H:=by
 simp only[exOp,exCallOp];cases evL t args.toList<;>rfl
@[simp] theorem bi_append (ts:List TypeId)(s x:Value):exBuiltin P .append ts [s,x] H=val2 (exAppend P ts s x H):=id rfl
@[simp] theorem bi_len (ts:List TypeId)(x:Value):exBuiltin P .len ts [x] H=val1 (exLen P ts x H) H:=id rfl
@[simp] theorem bi_cap (ts:List TypeId)(x:Value):exBuiltin P .cap ts [x] H=val1 (exCap P ts x H) H:=id rfl
@[simp] theorem op_panic (x:Operand):exOp P call (.panic x) t H=match evA t x with | some (.iface ty v)=>some (.pan (.iface ty v),H) | _=>none:=id rfl
@[simp] theorem pureRun_pure {α:Type}(a:α):pureRun P (pure a)=some a:=id rfl
theorem pureRun_bind {α β:Type}(f:α→Sem β):∀ (s:Sem α)(a:α),pureRun P s=some a→pureRun P (s >>= f)=pureRun P (f a):=by
 intro s
 induction s with
 | pure a=>intro b h;simp only[pureRun,Option.some.injEq]at h;subst h;rfl
 | program k ih=>intro b h;exact ih P b h
 | mark m k ih=>intro b h;exact ih b h
 | _=>intro b h;simp[pureRun]at h
theorem pureRun_underlying {t:TypeId}{d:TypeDesc}(h:P.underlying t=some d):pureRun P (underlying t)=some d:=by
 unfold underlying
 rw[pureRun_bind (a:=P) _ _ rfl]
 simp only[h]
 rfl
@[simp] theorem bin_add (ty:TypeId)(x y:Operand)(k:IntKind)(a b:Int):exBin P .add ty x y (.int k a) (.int k b)=some (.int k (k.wrap (a+b))):=by
 simp[exBin,ground,eqGuard,binOp,Op.intArith,pureRun_pure]
@[simp] theorem bin_sub (ty:TypeId)(x y:Operand)(k:IntKind)(a b:Int):exBin P .sub ty x y (.int k a) (.int k b)=some (.int k (k.wrap (a - b))):=by
 simp[exBin,ground,eqGuard,binOp,Op.intArith,pureRun_pure]
@[simp] theorem bin_mul (ty:TypeId)(x y:Operand)(k:IntKind)(a b:Int):exBin P .mul ty x y (.int k a) (.int k b)=some (.int k (k.wrap (a * b))):=by
 simp[exBin,ground,eqGuard,binOp,Op.intArith,pureRun_pure]
theorem bin_rem (ty:TypeId)(x y:Operand)(k:IntKind)(a b:Int)(h:b≠0):exBin P .rem ty x y (.int k a) (.int k b)=some (.int k (a.tmod b)):=by
 simp[exBin,ground,eqGuard,binOp,Op.intDiv,pureRun_pure,h]
@[simp] theorem bin_lss (ty:TypeId)(x y:Operand)(k:IntKind)(a b:Int):exBin P .lss ty x y (.int k a) (.int k b)=some (.bool (decide (a<b))):=by
 simp[exBin,ground,eqGuard,binOp,Op.intCmp,pureRun_pure]
@[simp] theorem bin_leq (ty:TypeId)(x y:Operand)(k:IntKind)(a b:Int):exBin P .leq ty x y (.int k a) (.int k b)=some (.bool (decide (a≤b))):=by
 simp[exBin,ground,eqGuard,binOp,Op.intCmp,pureRun_pure]
@[simp] theorem bin_gtr (ty:TypeId)(x y:Operand)(k:IntKind)(a b:Int):exBin P .gtr ty x y (.int k a) (.int k b)=some (.bool (decide (b<a))):=by
 simp[exBin,ground,eqGuard,binOp,Op.intCmp,pureRun_pure]
@[simp] theorem bin_geq (ty:TypeId)(x y:Operand)(k:IntKind)(a b:Int):exBin P .geq ty x y (.int k a) (.int k b)=some (.bool (decide (b≤a))):=by
 simp[exBin,ground,eqGuard,binOp,Op.intCmp,pureRun_pure]
@[simp] theorem bin_eql (ty:TypeId)(x y:Operand)(k:IntKind)(a b:Int):exBin P .eql ty x y (.int k a) (.int k b)=some (.bool (decide (a=b))):=by
 simp[exBin,ground,eqGuard,binOp,Op.intCmp,pureRun_pure]
 rfl
@[simp] theorem bin_neq (ty:TypeId)(x y:Operand)(k:IntKind)(a b:Int):exBin P .neq ty x y (.int k a) (.int k b)=some (.bool (!decide (a=b))):=by
 simp[exBin,ground,eqGuard,binOp,Op.intCmp,pureRun_pure]
 rfl
theorem bin_eql_gen {ty:TypeId}{x y:Operand}{a b:Value}{r:Bool}(hg:ground a=true)(hh:ground b=true)(h1:pureRun P (eqGuard .eql ty x y a b)=some ())(h2:binOp .eql ty a b=(do pure (.bool (← Op.equal ty a b))))(h3:pureRun P (Op.equal ty a b)=some r) :
  exBin P .eql ty x y a b=some (.bool r):=by
 simp only[exBin,hg,hh,Bool.and_self]
 rw[pureRun_bind _ _ _ h1,h2,pureRun_bind _ _ _ h3]
 rfl
theorem bin_neq_gen {ty:TypeId}{x y:Operand}{a b:Value}{r:Bool}(hg:ground a=true)(hh:ground b=true)(h1:pureRun P (eqGuard .neq ty x y a b)=some ())(h2:binOp .neq ty a b=(do pure (.bool (!(← Op.equal ty a b)))))(h3:pureRun P (Op.equal ty a b)=some r) :
  exBin P .neq ty x y a b=some (.bool !r):=by
 simp only[exBin,hg,hh,Bool.and_self]
 rw[pureRun_bind _ _ _ h1,h2,pureRun_bind _ _ _ h3]
 rfl
theorem equal_bool {ty:TypeId}(h:P.underlying ty=some .bool)(a b:Bool):pureRun P (Op.equal ty (.bool a) (.bool b))=some (a == b):=by
 show pureRun P (Op.equalIn (9999+1) ty _ _)=_
 unfold Op.equalIn
 rw[pureRun_bind _ _ _ (pureRun_underlying h)]
 rfl
theorem equal_ptr_nil {ty e:TypeId}(h:P.underlying ty=some (.pointer e)):pureRun P (Op.equal ty (.pointer none) (.pointer none))=some true:=by
 show pureRun P (Op.equalIn (9999+1) ty _ _)=_
 unfold Op.equalIn
 rw[pureRun_bind _ _ _ (pureRun_underlying h)]
 rfl
section
variable {ty:TypeId} {x y:Operand}
theorem bin_neq_bool (h:P.underlying ty=some .bool)(a b:Bool):exBin P .neq ty x y (.bool a) (.bool b)=some (.bool (a != b)):=bin_neq_gen rfl rfl rfl rfl (equal_bool h a b)
theorem bin_eql_pnil {e:TypeId}(h:P.underlying ty=some (.pointer e)):exBin P .eql ty x y (.pointer none) (.pointer none)=some (.bool true):=bin_eql_gen rfl rfl rfl rfl (equal_ptr_nil h)
theorem bin_neq_pnil {e:TypeId}(h:P.underlying ty=some (.pointer e)):exBin P .neq ty x y (.pointer none) (.pointer none)=some (.bool false):=bin_neq_gen rfl rfl rfl rfl (equal_ptr_nil h)
theorem bin_eql_ptr {e:TypeId}(h:P.underlying ty=some (.pointer e))(a:Addr):exBin P .eql ty x y (.pointer (some a)) (.pointer none)=some (.bool false):=by simp[exBin,eqNil,h]
theorem bin_neq_ptr {e:TypeId}(h:P.underlying ty=some (.pointer e))(a:Addr):exBin P .neq ty x y (.pointer (some a)) (.pointer none)=some (.bool true):=by simp[exBin,eqNil,h]
theorem bin_str (op:BinOp)(a b:ByteArray)(r:Bool)(h:Op.stringOp op a b=pure (.bool r))(hn:binOp op ty (.string a) (.string b)=Op.stringOp op a b)(hg:pureRun P (eqGuard op ty x y (.string a) (.string b))=some ()) :
  exBin P op ty x y (.string a) (.string b)=some (.bool r):=by
 simp only[exBin,ground_string,Bool.and_self]
 rw[pureRun_bind _ _ _ hg,hn,h]
 rfl
@[simp] theorem bin_eql_str (a b:ByteArray):exBin P .eql ty x y (.string a) (.string b)=some (.bool (a.toList == b.toList)):=bin_str .eql a b _ rfl rfl rfl
@[simp] theorem bin_neq_str (a b:ByteArray):exBin P .neq ty x y (.string a) (.string b)=some (.bool (!(a.toList == b.toList))):=bin_str .neq a b _ rfl rfl rfl
end
end Go.Vm
namespace Go.Vm
open Go.RowKit
variable {P:Program} {E:Hooks} {call:CallA} {t:List Value} {H:Heap}
inductive Kd where
 | bool | int (k:IntKind) | string | ptr | slice | map | func | iface | struct | array | other
def kindOf:TypeDesc→Kd
 | .bool => .bool | .int k => .int k | .string => .string | .pointer _ => .ptr | .slice _ => .slice | .map _ _ => .map | .func _ _ _ => .func | .interface _ => .iface | .struct _ => .struct | .array _ _ => .array | _ => .other
def kindT (P:Program)(t:TypeId):Option Kd:=(P.underlying t).map kindOf
def fieldT (P:Program)(s f:Nat):Option (Nat × Nat × TypeId) :=
 match P.underlying s with
 | some (.struct fields) => match fields[f]? with
  | some fl=>(sizeT P fl.type).map fun n=>(fl.offset,n,fl.type)
  | none=>none
 | _=>none
def arrT (P:Program)(t:TypeId):Option (Nat × TypeId):=match P.underlying t with | some (.array n e)=>some (n,e) | _=>none
def placesT (P:Program)(t:TypeId):Option (List (Nat × Nat)):=match P.underlying t with | some (.struct fields)=>placesOf P fields.toList | _=>none
theorem kind_under {ty:TypeId}{k:Kd}(h:kindT P ty=some k):∃ d,P.underlying ty=some d∧kindOf d=k:=by
 unfold kindT at h
 cases hu:P.underlying ty with
 | none=>rw[hu]at h;cases h
 | some d=>rw[hu]at h;simp only[Option.map_some,Option.some.injEq]at h;exact⟨d,rfl,h⟩
theorem kind_ptr {ty:TypeId}(h:kindT P ty=some .ptr):∃ e,P.underlying ty=some (.pointer e):=by
 obtain⟨d,h1,h2⟩:=kind_under h;cases d<;>simp[kindOf]at h2;exact⟨_,h1⟩
theorem kind_slice {ty:TypeId}(h:kindT P ty=some .slice):∃ e,P.underlying ty=some (.slice e):=by
 obtain⟨d,h1,h2⟩:=kind_under h;cases d<;>simp[kindOf]at h2;exact⟨_,h1⟩
theorem kind_bool {ty:TypeId}(h:kindT P ty=some .bool):P.underlying ty=some .bool:=by
 obtain⟨d,h1,h2⟩:=kind_under h;cases d<;>simp[kindOf]at h2;exact h1
theorem kind_string {ty:TypeId}(h:kindT P ty=some .string):P.underlying ty=some .string:=by
 obtain⟨d,h1,h2⟩:=kind_under h;cases d<;>simp[kindOf]at h2;exact h1
section
variable {ty:TypeId} {x y:Operand}
@[simp] theorem kbin_neq_bool (h:kindT P ty=some .bool)(a b:Bool):exBin P .neq ty x y (.bool a) (.bool b)=some (.bool (a != b)):=bin_neq_bool (kind_bool h) a b
@[simp] theorem kbin_eql_pnil (h:kindT P ty=some .ptr):exBin P .eql ty x y (.pointer none) (.pointer none)=some (.bool true):=let ⟨_,k⟩:=kind_ptr h;bin_eql_pnil k
@[simp] theorem kbin_neq_pnil (h:kindT P ty=some .ptr):exBin P .neq ty x y (.pointer none) (.pointer none)=some (.bool false):=let ⟨_,k⟩:=kind_ptr h;bin_neq_pnil k
@[simp] theorem kbin_eql_ptr (h:kindT P ty=some .ptr)(a:Addr):exBin P .eql ty x y (.pointer (some a)) (.pointer none)=some (.bool false):=let ⟨_,k⟩:=kind_ptr h;bin_eql_ptr k a
@[simp] theorem kbin_neq_ptr (h:kindT P ty=some .ptr)(a:Addr):exBin P .neq ty x y (.pointer (some a)) (.pointer none)=some (.bool true):=let ⟨_,k⟩:=kind_ptr h;bin_neq_ptr k a
end
theorem beq_dec (a b:Nat):Nat.beq a b=decide (a=b):=by
 cases hb:Nat.beq a b with
 | true=>simp[Nat.eq_of_beq_eq_true hb]
 | false=>simp[Nat.ne_of_beq_eq_false hb]
theorem ble_dec (a b:Nat):Nat.ble a b=decide (a≤b):=by
 cases hb:Nat.ble a b with
 | true=>simp[Nat.le_of_ble_eq_true hb]
 | false=>simp;exact Nat.lt_of_not_le fun h=>by rw[Nat.ble_eq_true_of_le h]at hb;cases hb
def unitF (P:Program)(s f id off:Nat)(o:AObj):Option Value:=match P.underlying s with
 | some (.struct fields) => match fields[f]? with
  | some fl=>unitField P o id off fl
  | none=>none
 | _=>none
@[simp] theorem field_ptr (s f id off:Nat):exField P s (.pointer (some ⟨id,off,none⟩)) f H=(fieldT P s f).bind fun p=>if p.2.1=0 then unitF P s f id off (H.get id)else some (.pointer (some ⟨id,off+p.1,none⟩)):=by
 unfold fieldT exField unitF
 cases hu:P.underlying s with
 | none=>rfl
 | some d =>
  cases d<;>first | rfl | skip
  rename_i fields
  simp only[]
  cases hf:fields[f]? with
  | none=>rfl
  | some fl =>
   simp only[]
   cases hs:sizeT P fl.type with
   | none=>rfl
   | some n =>
    simp only[Option.map_some,Option.bind_some]
    rw[beq_dec]
    by_cases h:n=0<;>simp[h]
@[simp] theorem index_slice (ty id off len cap:Nat)(k:IntKind)(i:Int):exIndex P ty (.slice (some ⟨id,off,none⟩) len cap) (.int k i) =
  (elemT P ty).bind fun e=>(sizeT P e).bind fun n=>if 0≤i∧i<len then some (.pointer (some ⟨id,off+i.toNat * n,none⟩))else none:=by
 unfold elemT exIndex
 cases hu:P.underlying ty with
 | none=>rfl
 | some d =>
  cases d<;>first | rfl | skip
  rename_i e
  simp only[Option.bind_some]
  cases sizeT P e<;>rfl
@[simp] theorem index_arr (ty id off:Nat)(k:IntKind)(i:Int):exIndex P ty (.pointer (some ⟨id,off,none⟩)) (.int k i) =
  (arrT P ty).bind fun p=>(sizeT P p.2).bind fun n=>if 0≤i∧i<p.1 then some (.pointer (some ⟨id,off+i.toNat * n,none⟩))else none:=by
 unfold arrT exIndex
 cases hu:P.underlying ty with
 | none=>rfl
 | some d =>
  cases d<;>first | rfl | skip
  rename_i e
  simp only[Option.bind_some]
  cases sizeT P e<;>rfl
@[simp] theorem part_cell {ty:TypeId}(h:aggT P ty=some false)(cs:List Value)(off:Nat):partA P ty cs off=cs[off]? := by simp only[partA,h]
@[simp] theorem part_agg {ty:TypeId}(h:aggT P ty=some true)(cs:List Value)(off:Nat):partA P ty cs off=(sizeT P ty).bind fun n=>if off+n≤cs.length then some (.agg ⟨(cs.drop off).take n⟩)else none:=by
 simp only[partA,h];cases sizeT P ty<;>rfl
def rowCells:AObj→Option (List Value)
 | .row _ _ _ cs=>some cs
 | _=>none
@[simp] theorem rowCells_row (own:Bool)(tl es:Nat)(cs:List Value):rowCells (.row own tl es cs)=some cs:=id rfl
def varCells:AObj→Option (List Value)
 | .row _ _ _ cs=>some cs
 | .unit _=>some []
 | _=>none
@[simp] theorem varCells_row (own:Bool)(tl es:Nat)(cs:List Value):varCells (.row own tl es cs)=some cs:=id rfl
@[simp] theorem varCells_unit (e:TypeId):varCells (.unit e)=some []:=id rfl
@[simp] theorem load_ptr (ty id off:Nat):exLoad P ty (.pointer (some ⟨id,off,none⟩)) H=(varCells (H.get id)).bind fun cs=>partA P ty cs off:=by
 unfold exLoad varCells;simp only[];cases H.get id<;>rfl
def storeA (o:AObj)(n off:Nat)(v:Value):Option AObj :=
 match o with
 | .row true tl es cs=>if v.cells.toList.length=n∧off+n≤cs.length∧isTuple v=false then some (.row true tl es (writeAt cs off v.cells.toList))else none
 | _=>none
@[simp] theorem storeA_row (tl es n off:Nat)(cs:List Value)(v:Value):storeA (.row true tl es cs) n off v=if v.cells.toList.length=n∧off+n≤cs.length∧isTuple v=false then some (.row true tl es (writeAt cs off v.cells.toList))else none:=id rfl
@[simp] theorem store_ptr (ty id off:Nat)(v:Value):exStore P ty (.pointer (some ⟨id,off,none⟩)) v H=(sizeT P ty).bind fun n=>(storeA (H.get id) n off v).map fun o=>H.set id o:=by
 unfold exStore storeA
 simp only[]
 cases hg:H.get id with
 | row own tl es cs =>
  cases own with
  | false=>cases sizeT P ty<;>rfl
  | true =>
   simp only[]
   cases sizeT P ty with
   | none=>rfl
   | some n =>
    simp only[Option.bind_some]
    rw[beq_dec,ble_dec]
    have e:(decide (v.cells.toList.length=n) && decide (off+n≤cs.length) && !isTuple v)=decide (v.cells.toList.length=n∧off+n≤cs.length∧isTuple v=false):=by
     rw[Bool.decide_and,Bool.decide_and,Bool.and_assoc]
     cases isTuple v<;>rfl
    rw[e]
    by_cases hc:v.cells.toList.length=n∧off+n≤cs.length∧isTuple v=false
    · rw[if_pos hc,decide_eq_true hc];rfl
    · rw[if_neg hc,decide_eq_false hc];rfl
 | _=>cases sizeT P ty<;>rfl
theorem newVarA_eq (ty:TypeId)(cs:List Value):newVarA P ty H.n H cs=(.pointer (some ⟨H.n,0,none⟩),H.push (if sizeT P ty=some 0 then .unit ty else .row true 0 1 cs)):=by
 unfold newVarA varObj
 rw[Heap.pushAt_n]
 congr 2
 split
 · rename_i h;rw[if_pos h]
 · rename_i h;rw[if_neg (fun e=>h e)]
@[simp] theorem alloc_eq (ty:TypeId):exAlloc P ty H=(zeroT P ty).map fun z=>(.pointer (some ⟨H.n,0,none⟩),H.push (if sizeT P ty=some 0 then .unit ty else .row true 0 1 z.cells.toList)):=by
 unfold exAlloc exAllocAt
 simp only[newVarA_eq]
@[simp] theorem box_eq (ty:TypeId)(v:Value):exBox P ty v H=if isTuple v=true then none else some (.pointer (some ⟨H.n,0,none⟩),H.push (if sizeT P ty=some 0 then .unit ty else .row true 0 1 v.cells.toList)):=by
 unfold exBox exBoxAt
 rw[newVarA_eq]
 cases isTuple v<;>rfl
@[simp] theorem isTuple_int (k:IntKind)(n:Int):isTuple (.int k n)=false:=id rfl
@[simp] theorem isTuple_string (s:ByteArray):isTuple (.string s)=false:=id rfl
@[simp] theorem isTuple_ptr (a:Option Addr):isTuple (.pointer a)=false:=id rfl
@[simp] theorem isTuple_slice (a:Option Addr)(l c:Nat):isTuple (.slice a l c)=false:=id rfl
@[simp] theorem isTuple_map (a:Option Nat):isTuple (.map a)=false:=id rfl
@[simp] theorem isTuple_agg (a:Array Value):isTuple (.agg a)=false:=id rfl
@[simp] theorem cells_int (k:IntKind)(n:Int):(Value.int k n).cells = #[.int k n]:=id rfl
@[simp] theorem cells_string (s:ByteArray):(Value.string s).cells = #[.string s]:=id rfl
@[simp] theorem cells_ptr (a:Option Addr):(Value.pointer a).cells = #[.pointer a]:=id rfl
@[simp] theorem cells_slice (a:Option Addr)(l c:Nat):(Value.slice a l c).cells = #[.slice a l c]:=id rfl
@[simp] theorem cells_map (a:Option Nat):(Value.map a).cells = #[.map a]:=id rfl
@[simp] theorem cells_agg (a:Array Value):(Value.agg a).cells=a:=id rfl
attribute [simp] writeAt_nil
@[simp] theorem len_slice {ty:TypeId}(h:kindT P ty=some .slice)(ts:List TypeId)(a:Option Addr)(l c:Nat):exLen P (ty :: ts) (.slice a l c) H=some (.int .i64 l):=by
 obtain⟨e,h⟩:=kind_slice h;simp only[exLen,h]
@[simp] theorem len_str {ty:TypeId}(h:kindT P ty=some .string)(ts:List TypeId)(s:ByteArray):exLen P (ty :: ts) (.string s) H=some (.int .i64 s.size):=by
 simp only[exLen,kind_string h]
@[simp] theorem res_nil (ts:List Value):exResults P [] ts H=some []:=id rfl
@[simp] theorem res_tmp (k:Nat)(rs:List ResultVar)(ts:List Value):exResults P (.tmp k :: rs) ts H=(exResults P rs ts H).map fun l=>rd ts k :: l:=id rfl
@[simp] theorem res_cell (a:Nat)(ty:TypeId)(rs:List ResultVar)(ts:List Value):exResults P (.cell a ty :: rs) ts H=(exLoad P ty (rd ts a) H).bind fun v=>(exResults P rs ts H).map fun l=>v :: l:=by
 unfold rd;simp only[exResults];cases exLoad P ty (ts.getD a undef) H<;>cases exResults P rs ts H<;>rfl
@[simp] theorem guardD_some (d:Nat)(w:Bool)(t:List Value):guardD (some d) w t=isB w (rd t d):=id rfl
@[simp] theorem guardOf_def (ops:List Oper)(j:Nat)(w:Bool)(t:List Value):guardOf ops j w t=guardD (dstOf ops j) w t:=id rfl
@[simp] theorem dstOf_zero (o:Oper)(os:List Oper):dstOf (o :: os) 0=o.dst:=id rfl
@[simp] theorem dstOf_succ (o:Oper)(os:List Oper)(j:Nat):dstOf (o :: os) (j+1)=dstOf os j:=id rfl
theorem call_fn {f : FuncId} {fn : Func} {c : Code} (hf : P.funcs[f]? = some fn) (hb : fn.body = some c) (hn : (fn.name == "runtime.NumGoroutine") = false) (hE : E.has f = false) (args : List Value) (H : Heap) :
  (run P E).call f args H=bodyA P E (run P E) fn.results.toList ((run P E).code c ⟨Fr (Bs fn.ntmps args) [],[]⟩ H):=by
 rw[call_body hf hb hn hE];rfl
attribute [simp] deferOf
attribute [irreducible] Fr Bs rd look
theorem Heap.get_set_ne (H:Heap)(i:Nat)(o:AObj)(hi:i<H.n)(j:Nat)(hj:j≠i):(H.set i o).get j=H.get j:=by rw[Heap.get_set H i o hi,if_neg hj]
end Go.Vm
namespace Go.Vm
open Go.RowKit
variable {P:Program} {E:Hooks} {call:CallA} {t:List Value} {H:Heap}
@[simp] theorem fillL_nil (place:Nat→Option (Nat × Nat))(cells:List Value):fillL place cells []=some cells:=id rfl
@[simp] theorem fillL_cons (place:Nat→Option (Nat × Nat))(cells:List Value)(i:Nat)(v:Value)(rest:List (Nat × Value)) :
  fillL place cells ((i,v) :: rest)=(place i).bind fun p=>if v.cells.toList.length=p.2∧p.1+p.2≤cells.length∧isTuple v=false then fillL place (writeAt cells p.1 v.cells.toList) rest else none:=by
 simp only[fillL]
 cases place i with
 | none=>rfl
 | some p =>
  obtain⟨off,size⟩:=p
  simp only[Option.bind_some]
  rw[beq_dec,ble_dec]
  have e:(decide (v.cells.toList.length=size) && decide (off+size≤cells.length) && !isTuple v)=decide (v.cells.toList.length=size∧off+size≤cells.length∧isTuple v=false):=by
   rw[Bool.decide_and,Bool.decide_and,Bool.and_assoc]
   cases isTuple v<;>rfl
  rw[e]
  by_cases hc:v.cells.toList.length=size∧off+size≤cells.length∧isTuple v=false
  · rw[if_pos hc,decide_eq_true hc]
  · rw[if_neg hc,decide_eq_false hc]
def buildA (P:Program)(pl:Option (List (Nat × Nat)))(ar:Option (Nat × TypeId))(z:Value)(parts:List (Nat × Value)):Option Value :=
 match pl with
 | some pl=>(fillL (fun i=>pl[i]?) z.cells.toList parts).map fun cs => .agg ⟨cs⟩
 | none=>ar.bind fun p=>(sizeT P p.2).bind fun n=>(fillL (fun i=>some (i * n,n)) z.cells.toList parts).map fun cs => .agg ⟨cs⟩
@[simp] theorem build_eq (ty:TypeId)(parts:List (Nat × Value)):exBuild P ty parts=(zeroT P ty).bind fun z=>buildA P (placesT P ty) (arrT P ty) z parts:=by
 unfold exBuild buildA placesT arrT
 cases zeroT P ty with
 | none=>rfl
 | some z =>
  simp only[Option.bind_some]
  cases hu:P.underlying ty with
  | none=>rfl
  | some d =>
   cases d<;>first | rfl | (rename_i fs;simp only[];cases placesOf P fs.toList<;>rfl) | (rename_i n e;simp only[Option.bind_some];cases sizeT P e<;>rfl)
@[simp] theorem buildA_some (pl:List (Nat × Nat))(ar:Option (Nat × TypeId))(z:Value)(parts:List (Nat × Value)):buildA P (some pl) ar z parts=(fillL (fun i=>pl[i]?) z.cells.toList parts).map fun cs => .agg ⟨cs⟩:=id rfl
@[simp] theorem buildA_none (n:Nat)(e:TypeId)(z:Value)(parts:List (Nat × Value)):buildA P none (some (n,e)) z parts=(sizeT P e).bind fun n=>(fillL (fun i=>some (i * n,n)) z.cells.toList parts).map fun cs => .agg ⟨cs⟩:=id rfl
@[simp] theorem buildSlice_eq (ty:TypeId)(len:Nat)(parts:List (Nat × Value)):exBuildSlice P ty len parts H=(elemT P ty).bind fun e=>(sizeT P e).bind fun n=>(zeroT P e).bind fun z =>
  if len * n≤16777216∧z.cells.toList.length=n∧n≠0 then (fillL (fun i=>some (i * n,n)) (repCells len z.cells.toList) parts).map fun cs=>(.slice (some ⟨H.n,0,none⟩) len len,H.push (.row true 0 n cs))else none:=by
 unfold exBuildSlice exBuildSliceAt
 simp only[Heap.pushAt_n]
 cases elemT P ty with
 | none=>rfl
 | some e =>
  simp only[Option.bind_some]
  cases sizeT P e with
  | none=>rfl
  | some n =>
   cases zeroT P e with
   | none=>rfl
   | some z =>
    simp only[Option.bind_some]
    rw[beq_dec,ble_dec,beq_dec]
    have e:(decide (len * n≤16777216) && decide (z.cells.toList.length=n) && !decide (n=0))=decide (len * n≤16777216∧z.cells.toList.length=n∧n≠0):=by
     rw[Bool.decide_and,Bool.decide_and,Bool.and_assoc,decide_not]
    rw[e]
    by_cases hc:len * n≤16777216∧z.cells.toList.length=n∧n≠0
    · rw[if_pos hc,decide_eq_true hc]
    · rw[if_neg hc,decide_eq_false hc]
@[simp] theorem repCells_zero (zs:List Value):repCells 0 zs=[]:=id rfl
theorem repCells_succ (n:Nat)(zs:List Value):repCells (n+1) zs=zs++repCells n zs:=by simp[repCells,List.replicate_succ]
@[simp] theorem fieldA_agg (ty:TypeId)(cs:List Value)(f:Nat)(hs:(fieldT P ty f).isSome=true):fieldA P ty (some (.agg ⟨cs⟩)) f=(fieldT P ty f).bind fun p=>partA P p.2.2 cs p.1:=by
 unfold fieldA
 unfold fieldT at hs ⊢
 cases hu:P.underlying ty with
 | none=>rfl
 | some d =>
  rw[hu]at hs
  cases d<;>first | rfl | skip
  rename_i fields
  simp only[]at hs ⊢
  cases hf:fields[f]? with
  | none=>rfl
  | some fl =>
   rw[hf]at hs
   simp only[]at hs ⊢
   cases hz:sizeT P fl.type with
   | none=>rw[hz]at hs;simp at hs
   | some n=>rfl
@[simp] theorem slice_slice (ty id off len cap:Nat)(lo hi mx:Option Value):exSlice P ty (.slice (some ⟨id,off,none⟩) len cap) lo hi mx H=(elemT P ty).bind fun e=>(sizeT P e).bind fun n=>cutA id off len cap n lo hi mx H:=by
 unfold elemT exSlice
 cases hu:P.underlying ty with
 | none=>rfl
 | some d =>
  cases d<;>first | rfl | skip
  rename_i e
  simp only[Option.bind_some]
  cases sizeT P e<;>rfl
@[simp] theorem lenA_slice (a:Option Addr)(l c:Nat):lenA (.slice a l c)=some l:=id rfl
@[simp] theorem lenA_string (s:ByteArray):lenA (.string s)=some s.size:=id rfl
attribute [simp] boundOf
@[simp] theorem cellsOf_slice (id off size n l c:Nat):cellsOf H size n (.slice (some ⟨id,off,none⟩) l c)=(rowCells (H.get id)).bind fun cs=>if off+n * size≤cs.length then some ((cs.drop off).take (n * size))else none:=by
 simp only[cellsOf]
 cases H.get id<;>rfl
@[simp] theorem cellsOf_nil (size l c:Nat):cellsOf H size 0 (.slice none l c)=some []:=id rfl
end Go.Vm
namespace Go.Vm
open Go.RowKit
variable {P:Program} {E:Hooks} {call:CallA} {t:List Value} {H:Heap}
abbrev TextR:=Option (List (List Value × Value) × List Heap × List Value × Heap)
def textK (x:TextR)(t:List Value)(v:Value)(H:Heap)(w:Bool):TextR :=
 match x with
 | some (tr,hs,t',H2)=>some ((t,v) :: tr,(match w with | true=>H :: hs | false=>hs),t',H2)
 | none=>none
@[simp] theorem textK_true (tr:List (List Value × Value))(hs:List Heap)(t':List Value)(H2:Heap)(v:Value):textK (some (tr,hs,t',H2)) t v H true=some ((t,v) :: tr,H :: hs,t',H2):=id rfl
@[simp] theorem textK_false (tr:List (List Value × Value))(hs:List Heap)(t':List Value)(H2:Heap)(v:Value):textK (some (tr,hs,t',H2)) t v H false=some ((t,v) :: tr,hs,t',H2):=id rfl
def textO (r:Option (Out × Heap))(t:List Value)(dst:Option Tmp)(w:Bool)(k:List Value→Heap→TextR)(_:Held k):TextR :=
 match r with
 | some (.val v,H)=>textK (k (putA t dst v) H) t v H w
 | _=>none
@[simp] theorem textO_val (v:Value)(dst:Option Tmp)(w:Bool)(k:List Value→Heap→TextR)(hk:Held k):textO (some (.val v,H)) t dst w k hk=textK (k (putA t dst v) H) t v H w:=id rfl
@[simp] theorem exText_nil (ops:List Oper):exText P call ops [] t H=some ([],[],t,H):=id rfl
theorem textK_eq (x:TextR)(t:List Value)(v:Value)(H:Heap)(o:Op):(match x with
   | none=>none
   | some (tr, hs, t', H2) => match isW P o with
    | true=>some ((t,v) :: tr,H :: hs,t',H2)
    | false=>some ((t,v) :: tr,hs,t',H2))=textK x t v H (isW P o):=by
 unfold textK
 cases x with
 | none=>rfl
 | some q=>obtain⟨a,b,c,d⟩:=q;simp only[];cases isW P o<;>rfl
@[simp] theorem exText_plain (ops rest:List Oper)(dst:Option Tmp)(op:Op)(ty:TypeId)(pos:String)(after:Array Edge) :
  exText P call ops (⟨dst,op,ty,pos,after,none⟩ :: rest) t H=textO (exOp P call op t H) t dst (isW P op) (exText P call ops rest) (held _):=by
 simp only[exText,exOne,wantA]
 unfold textO
 cases exOp P call op t H with
 | none=>rfl
 | some p =>
  obtain⟨out,H1⟩:=p
  cases out with
  | pan v=>rfl
  | val v=>exact textK_eq _ _ _ _ _
def sameV (r:Option (Value × Heap))(v:Value):Bool:=match r with | some (u,_)=>decide (u=v) | none=>false
@[simp] theorem sameV_some (u v:Value):sameV (some (u,H)) v=decide (u=v):=id rfl
def valOf (r:Option (Out × Heap)):Option (Value × Heap):=match r with | some (.val v,H)=>some (v,H) | _=>none
@[simp] theorem valOf_val (v:Value):valOf (some (.val v,H))=some (v,H):=id rfl
@[simp] theorem exOne_plain (ops:List Oper)(dst:Option Tmp)(op:Op)(ty:TypeId)(pos:String)(after:Array Edge):exOne P call ops ⟨dst,op,ty,pos,after,none⟩ t H=valOf (exOp P call op t H):=by
 simp only[exOne,wantA];unfold valOf
 cases exOp P call op t H with
 | none=>rfl
 | some p=>obtain⟨out,H1⟩:=p;cases out<;>rfl
@[simp] theorem stableIn_nil (ops:List Oper)(o:Oper)(v:Value):stableIn P call ops o t v []=true:=id rfl
@[simp] theorem stableIn_cons (ops:List Oper)(o:Oper)(v:Value)(Hs:List Heap):stableIn P call ops o t v (H :: Hs)=(sameV (exOne P call ops o t H) v && stableIn P call ops o t v Hs):=by
 simp only[stableIn];unfold sameV
 cases exOne P call ops o t H with
 | none=>rfl
 | some p =>
  obtain⟨u,H1⟩:=p
  simp only[]
  cases hd:decV u v with
  | isTrue h=>simp[h]
  | isFalse h=>simp[h]
@[simp] theorem stableAll_nil (ops:List Oper)(Ms:List Heap)(os:List Oper)(tr:List (List Value × Value)):stableAll P call ops Ms [] os tr=true:=by simp[stableAll]
@[simp] theorem stableAll_none (ops:List Oper)(Ms:List Heap)(pl:List (Option (Nat × Nat)))(o:Oper)(os:List Oper)(q:List Value × Value)(tr:List (List Value × Value)) :
  stableAll P call ops Ms (none :: pl) (o :: os) (q :: tr)=stableAll P call ops Ms pl os tr:=id rfl
@[simp] theorem stableAll_some (ops:List Oper)(Ms:List Heap)(lo k:Nat)(pl:List (Option (Nat × Nat)))(o:Oper)(os:List Oper)(v:Value)(tr:List (List Value × Value)) :
  stableAll P call ops Ms (some (lo,k) :: pl) (o :: os) ((t,v) :: tr)=(stableIn P call ops o t v ((Ms.drop lo).take (k+1)) && stableAll P call ops Ms pl os tr):=id rfl
def drawF (P:Program)(call:CallA)(ops:List Oper)(pl:List (Option (Nat × Nat)))(H:Heap)(ds:List (FuncId × List Value))(x:TextR):ResA :=
 match x with
 | some (tr, hs, t', H2) => match stableAll P call ops (H :: hs) pl ops tr with
  | true=>some (.normal,⟨t',ds⟩,H2)
  | false=>none
 | none=>none
@[simp] theorem drawF_some (ops:List Oper)(pl:List (Option (Nat × Nat)))(ds:List (FuncId × List Value))(tr:List (List Value × Value))(hs:List Heap)(t':List Value)(H2:Heap) :
  drawF P call ops pl H ds (some (tr,hs,t',H2))=if stableAll P call ops (H :: hs) pl ops tr=true then some (.normal,⟨t',ds⟩,H2)else none:=by
 unfold drawF;simp only[];cases stableAll P call ops (H :: hs) pl ops tr<;>rfl
theorem code_plan {ops:Array Oper}{pl:List (Option (Nat × Nat))}(hp:planOf P ops.toList=some pl)(id:Nat)(s:St)(H:Heap) :
  (run P E).code (.region id ops true) s H=drawF P (run P E).call ops.toList pl H s.ds (exText P (run P E).call ops.toList ops.toList s.t H):=by
 rw[run_code]
 show exDraw P (run P E).call ops.toList s H=_
 unfold exDraw drawF
 rw[hp]
 simp only[]
 cases exText P (run P E).call ops.toList ops.toList s.t H with
 | none=>rfl
 | some q=>obtain⟨a,b,c,d⟩:=q;rfl
attribute [simp] isW
def regsOf:Code→List (Nat × Array Oper)
 | .region id ops _=>[(id,ops)]
 | .seq a b=>regsOf a++regsOf b
 | .cond _ a b=>regsOf a++regsOf b
 | .block _ c=>regsOf c
 | .scope c=>regsOf c
 | .loop c=>regsOf c
 | _=>[]
def regN (fn:Func)(i:Nat):Array Oper:=match fn.body with
 | some c => match (regsOf c).find? fun p => Nat.beq p.1 i with
  | some p=>p.2
  | none => #[]
 | none => #[]
end Go.Vm
namespace Go.Vm
def drawsOf:Code→List (Array Oper)
 | .region _ ops true=>[ops]
 | .seq a b=>drawsOf a++drawsOf b
 | .cond _ a b=>drawsOf a++drawsOf b
 | .block _ c=>drawsOf c
 | .scope c=>drawsOf c
 | .loop c=>drawsOf c
 | _=>[]
def drawN (fn:Func)(i:Nat):List Oper:=match fn.body with
 | some c=>((drawsOf c).getD i #[]).toList
 | none=>[]
end Go.Vm
namespace Go.Vm
open Go.RowKit
variable {P:Program} {E:Hooks} {call:CallA} {t:List Value} {H:Heap}
abbrev FreeR:=Option (List (Nat × List Nat × List Nat) × List Value × Heap)
def addT (i:Nat)(w:List Nat × List Nat)(x:FreeR):FreeR:=match w with
 | ([],[])=>x
 | w => match x with
  | some (l,t,H)=>some ((i,w) :: l,t,H)
  | none=>none
def freeT (P:Program)(call:CallA)(ops:List Oper):List Oper→List Value→Nat→Heap→Nat→FreeR
 | [],t,_,H,_=>some ([],t,H)
 | o :: rest, t, r, H, i => match exOneR P call ops o t r H with
  | none=>none
  | some (v,H')=>addT i (touchR P o.op t r) (freeT P call ops rest (putA t o.dst v) (r+needR o.op) H' (i+1))
def touchL:Nat→List StepR→List (Nat × List Nat × List Nat)
 | _,[]=>[]
 | i, s :: st => match s.W, s.R with
  | [],[]=>touchL (i+1) st
  | W,R=>(i,W,R) :: touchL (i+1) st
def clashP (a b:List Nat × List Nat):Bool:=a.1.any (fun x=>b.1.elem x || b.2.elem x) || b.1.any (fun x=>a.2.elem x)
def apartP (ms:List Nat):List (Nat × List Nat × List Nat)→Bool
 | []=>true
 | a :: as=>as.all (fun b=>(ms.getD b.1 0).testBit a.1 || !clashP b.2 a.2) && apartP ms as
theorem freeT_some {ops:List Oper}:∀ {rest:List Oper}{t:List Value}{r:Nat}{H:Heap}{i:Nat}{l:List (Nat × List Nat × List Nat)}{t':List Value}{H2:Heap},freeT P call ops rest t r H i=some (l,t',H2) →
  ∃ st,exFreeT P call ops rest t r H=some (st,t',H2)∧l=touchL i st
 | [], t, r, H, i, l, t', H2, h => by
  simp only[freeT,Option.some.injEq,Prod.mk.injEq]at h
  obtain⟨rfl,rfl,rfl⟩:=h
  exact⟨[],rfl,rfl⟩
 | o :: rest, t, r, H, i, l, t', H2, h => by
  simp only[freeT]at h
  simp only[exFreeT]
  cases ho:exOneR P call ops o t r H with
  | none=>rw[ho]at h;cases h
  | some p =>
   obtain⟨v,H1⟩:=p
   rw[ho]at h
   simp only[]at h
   cases hw:touchR P o.op t r with
   | mk W R =>
    rw[hw]at h
    cases hx:freeT P call ops rest (putA t o.dst v) (r+needR o.op) H1 (i+1)with
    | none=>rw[hx]at h;unfold addT at h;split at h<;>cases h
    | some q =>
     obtain⟨l1,t1,H3⟩:=q
     obtain⟨st,h1,rfl⟩:=freeT_some hx
     rw[hx]at h
     simp only[h1]
     unfold addT at h
     split at h
     · rename_i hz
       simp only[Prod.mk.injEq]at hz
       obtain⟨rfl,rfl⟩:=hz
       simp only[Option.some.injEq,Prod.mk.injEq]at h
       obtain⟨rfl,rfl,rfl⟩:=h
       exact⟨_,rfl,rfl⟩
     · rename_i hz
       simp only[Option.some.injEq,Prod.mk.injEq]at h
       obtain⟨rfl,rfl,rfl⟩:=h
       refine⟨_,rfl,?_⟩
       cases W with
       | nil => cases R with
        | nil=>exact (hz rfl).elim
        | cons a b=>rfl
       | cons a b=>rfl
theorem touchL_mem:∀ {st:List StepR}{i k:Nat}{s:StepR},st[k]? = some s→(s.W≠[]∨s.R≠[])→(i+k,s.W,s.R)∈touchL i st
 | [],i,k,s,h,_=>by simp at h
 | s0 :: st, i, 0, s, h, hn => by
  simp only[List.getElem?_cons_zero,Option.some.injEq]at h
  subst h
  unfold touchL
  split
  · rename_i h1 h2;rcases hn with hn | hn<;>contradiction
  · exact List.mem_cons_self
 | s0 :: st, i, k + 1, s, h, hn => by
  simp only[List.getElem?_cons_succ]at h
  have:=touchL_mem (i:=i+1) h hn
  rw[show i+1+k=i+(k+1) by omega]at this
  unfold touchL
  split
  · exact this
  · exact List.mem_cons_of_mem _ this
theorem apartP_pair {ms:List Nat}:∀ {st:List StepR}{i:Nat},apartP ms (touchL i st)=true→∀ {j k:Nat}{a b:StepR},j<k→st[j]? = some a→st[k]? = some b→(ms.getD (i+k) 0).testBit (i+j) || !clash b a
 | [],i,_,j,k,a,b,_,h,_=>by simp at h
 | s :: st, i, h, 0, k + 1, a, b, _, h1, h2 => by
  simp only[List.getElem?_cons_zero,Option.some.injEq]at h1
  subst h1
  simp only[List.getElem?_cons_succ]at h2
  by_cases ha:s.W≠[]∨s.R≠[]
  · by_cases hb:b.W≠[]∨b.R≠[]
    · have hm:=touchL_mem (i:=i+1) h2 hb
      have he:touchL i (s :: st)=(i,s.W,s.R) :: touchL (i+1) st:=by
       conv=>lhs;unfold touchL
       split
       · rename_i e1 e2
         rcases ha with ha | ha<;>contradiction
       · rfl
      rw[he,apartP,Bool.and_eq_true,List.all_eq_true]at h
      have:=h.1 _ hm
      rw[show i+1+k=i+(k+1) by omega]at this
      exact this
    · have e1:b.W=[]:=by by_cases c:b.W=[]<;>simp_all
      have e2:b.R=[]:=by by_cases c:b.R=[]<;>simp_all
      simp[clash,e1,e2]
  · have e1:s.W=[]:=by by_cases c:s.W=[]<;>simp_all
    have e2:s.R=[]:=by by_cases c:s.R=[]<;>simp_all
    simp[clash,e1,e2]
 | s :: st, i, h, j + 1, k + 1, a, b, hlt, h1, h2 => by
  simp only[List.getElem?_cons_succ]at h1 h2
  have h':apartP ms (touchL (i+1) st)=true:=by
   unfold touchL at h
   split at h
   · exact h
   · rw[apartP,Bool.and_eq_true]at h;exact h.2
  have:=apartP_pair h' (show j<k by omega) h1 h2
  rw[show i+1+k=i+(k+1) by omega,show i+1+j=i+(j+1) by omega]at this
  exact this
theorem apartP_all {ms:List Nat}{st:List StepR}(h:apartP ms (touchL 0 st)=true):apartAll ms st=true:=by
 unfold apartAll
 rw[List.all_eq_true]
 intro i hi
 unfold apartAt
 rw[List.all_eq_true]
 intro j hj
 rw[List.mem_range]at hi hj
 have e1:st[i]? = some st[i]:=List.getElem?_eq_getElem hi
 have e2:st[j]? = some st[j]:=List.getElem?_eq_getElem (by omega)
 have:=apartP_pair h hj e2 e1
 simp only[Nat.zero_add]at this
 rw[e1,e2]
 exact this
def freeF (ms:List Nat)(ds:List (FuncId × List Value))(x:FreeR):ResA:=match x with
 | some (l, t', H2) => match apartP ms l with
  | true=>some (.normal,⟨t',ds⟩,H2)
  | false=>none
 | none=>none
@[simp] theorem freeF_some (ms:List Nat)(ds:List (FuncId × List Value))(l:List (Nat × List Nat × List Nat))(t':List Value)(H2:Heap) :
  freeF ms ds (some (l,t',H2))=if apartP ms l=true then some (.normal,⟨t',ds⟩,H2)else none:=by
 unfold freeF;simp only[];cases apartP ms l<;>rfl
theorem code_free {ops:Array Oper}(hp:planOf P ops.toList=none)(hla:lateAt ops.toList=none){ms:List Nat}(hm:preOf ops.toList=ms)(ho:freeOK ops.toList ms=true){k:Nat}(hk:needAll ops.toList=k){id:Nat}{s:St}{H:Heap}{r:ExA × St × Heap}
  (h:freeF ms s.ds (freeT P (run P E).call ops.toList ops.toList s.t H.n (H.room k) 0)=some r):(run P E).code (.region id ops true) s H=some r:=by
 subst hm
 rw[run_code]
 show exDraw P (run P E).call ops.toList s H=_
 unfold exDraw
 rw[hp]
 simp only[]
 unfold exNoPlan
 rw[hla]
 simp only[]
 unfold exFree
 rw[ho,hk]
 simp only[]
 cases hx:freeT P (run P E).call ops.toList ops.toList s.t H.n (H.room k) 0 with
 | none=>rw[hx]at h;cases h
 | some q =>
  obtain⟨l,t',H2⟩:=q
  obtain⟨st,h1,rfl⟩:=freeT_some hx
  rw[hx,freeF_some]at h
  split at h
  · rename_i ha
    rw[h1]
    simp only[apartP_all ha]
    exact h
  · cases h
def freeO (r:Option (Out × Heap))(t:List Value)(dst:Option Tmp)(w:List Nat × List Nat)(i:Nat)(k:List Value→Heap→FreeR)(_:Held k):FreeR :=
 match r with
 | some (.val v,H)=>addT i w (k (putA t dst v) H)
 | _=>none
@[simp] theorem freeO_val (v:Value)(dst:Option Tmp)(w:List Nat × List Nat)(i:Nat)(k:List Value→Heap→FreeR)(hk:Held k):freeO (some (.val v,H)) t dst w i k hk=addT i w (k (putA t dst v) H):=id rfl
@[simp] theorem addT_nil (i:Nat)(x:FreeR):addT i ([],[]) x=x:=id rfl
@[simp] theorem addT_W (i a:Nat)(as R:List Nat)(l:List (Nat × List Nat × List Nat)):addT i (a :: as,R) (some (l,t,H))=some ((i,a :: as,R) :: l,t,H):=id rfl
@[simp] theorem addT_R (i a:Nat)(as:List Nat)(l:List (Nat × List Nat × List Nat)):addT i ([],a :: as) (some (l,t,H))=some ((i,[],a :: as) :: l,t,H):=id rfl
@[simp] theorem freeT_nil (ops:List Oper)(r i:Nat):freeT P call ops [] t r H i=some ([],t,H):=id rfl
@[simp] theorem freeT_plain (ops rest:List Oper)(dst:Option Tmp)(op:Op)(ty:TypeId)(pos:String)(after:Array Edge)(r i:Nat) :
  freeT P call ops (⟨dst,op,ty,pos,after,none⟩ :: rest) t r H i=freeO (exOpR P call op t r H) t dst (touchR P op t r) i (fun t H=>freeT P call ops rest t (r+needR op) H (i+1)) (held _):=by
 simp only[freeT,exOneR,wantA]
 unfold freeO
 cases exOpR P call op t r H with
 | none=>rfl
 | some p =>
  obtain⟨out,H1⟩:=p
  cases out<;>rfl
section
variable {r:Nat}
@[simp] theorem opR_move (x:Operand):exOpR P call (.move x) t r H=exOp P noCall (.move x) t H:=id rfl
@[simp] theorem opR_assign (x:Operand):exOpR P call (.assign x) t r H=exOp P noCall (.assign x) t H:=id rfl
@[simp] theorem opR_load (ty:TypeId)(x:Operand):exOpR P call (.load ty x) t r H=exOp P noCall (.load ty x) t H:=id rfl
@[simp] theorem opR_store (ty:TypeId)(x y:Operand):exOpR P call (.store ty x y) t r H=exOp P noCall (.store ty x y) t H:=id rfl
@[simp] theorem opR_nilCheck (x:Operand):exOpR P call (.nilCheck x) t r H=exOp P noCall (.nilCheck x) t H:=id rfl
@[simp] theorem opR_fieldAddr (s:TypeId)(x:Operand)(f:Nat):exOpR P call (.fieldAddr s x f) t r H=exOp P noCall (.fieldAddr s x f) t H:=id rfl
@[simp] theorem opR_indexAddr (s:TypeId)(x y:Operand):exOpR P call (.indexAddr s x y) t r H=exOp P noCall (.indexAddr s x y) t H:=id rfl
@[simp] theorem opR_len (args:Array Operand)(ts:Array TypeId):exOpR P call (.call ⟨.builtin .len,args,ts⟩) t r H=exOp P noCall (.call ⟨.builtin .len,args,ts⟩) t H:=id rfl
@[simp] theorem opR_call (f:Operand)(args:Array Operand)(ts:Array TypeId):exOpR P call (.call ⟨.value f,args,ts⟩) t r H=exOp P (isoCall call) (.call ⟨.value f,args,ts⟩) t H:=id rfl
@[simp] theorem opR_buildSlice (ty:TypeId)(n:Nat)(ps:Array (Nat × Operand)):exOpR P call (.buildSlice ty n ps) t r H=val2 ((evP t ps.toList).bind fun l=>exBuildSliceAt P ty n l r H):=by
 simp only[exOpR];cases evP t ps.toList<;>rfl
@[simp] theorem opR_slice (ty:TypeId)(x:Operand)(lo hi:Option Operand):exOpR P call (.slice ty x lo hi none) t r H=val2 ((evA t x).bind fun v=>(evO t lo).bind fun l=>(evO t hi).bind fun h=>exSliceAt P ty v l h r H):=by
 simp only[exOpR]
 cases evA t x<;>cases evO t lo<;>cases evO t hi<;>rfl
@[simp] theorem sliceAt_slice (ty id off len cap:Nat)(lo hi:Option Value)(r:Nat):exSliceAt P ty (.slice (some ⟨id,off,none⟩) len cap) lo hi r H=(elemT P ty).bind fun e=>(sizeT P e).bind fun n=>cutR id off len cap n lo hi r H:=by
 unfold elemT exSliceAt
 cases hu:P.underlying ty with
 | none=>rfl
 | some d =>
  cases d<;>first | rfl | skip
  rename_i e
  simp only[Option.bind_some]
  cases sizeT P e<;>rfl
def appR (P:Program)(ts:List TypeId)(r:Nat)(H:Heap)(l:Option (List Value)):Option (Out × Heap):=match l with
 | some [s,x]=>val2 (exAppendAt P ts s x r H)
 | _=>none
@[simp] theorem appR_some (ts:List TypeId)(s x:Value):appR P ts r H (some [s,x])=val2 (exAppendAt P ts s x r H):=id rfl
@[simp] theorem opR_append (args:Array Operand)(ts:Array TypeId):exOpR P call (.call ⟨.builtin .append,args,ts⟩) t r H=appR P ts.toList r H (evL t args.toList):=by
 simp only[exOpR];unfold appR;rfl
theorem iso_eq {f:FuncId}{args:List Value}{v:Value}{H1:Heap}(h:call f args Heap.empty=some (.val v,H1))(hg:groundL args=true)(hv:ground v=true)(H:Heap):isoCall call f args H=some (.val v,H):=isoCall_eq hg hv h H
end
def lateF (P:Program)(call:CallA)(A:List Oper)(pl:List (Option (Nat × Nat)))(q:LateQ)(z:Value)(H:Heap)(ds:List (FuncId × List Value))(x:TextR):ResA :=
 match x with
 | some (tr, hs, t', H1) => match stableAll P call A (H.push .dead :: hs) pl A tr with
  | true=>exLast P q z H.n ds t' H1
  | false=>none
 | none=>none
@[simp] theorem lateF_some (A:List Oper)(pl:List (Option (Nat × Nat)))(q:LateQ)(z:Value)(ds:List (FuncId × List Value))(tr:List (List Value × Value))(hs:List Heap)(t':List Value)(H1:Heap) :
  lateF P call A pl q z H ds (some (tr,hs,t',H1))=if stableAll P call A (H.push .dead :: hs) pl A tr=true then exLast P q z H.n ds t' H1 else none:=by
 unfold lateF;simp only[];cases stableAll P call A (H.push .dead :: hs) pl A tr<;>rfl
def lastO (x:Option (Out × Heap))(t:List Value)(ds:List (FuncId × List Value)):ResA:=match x with
 | some (.val _,H2)=>some (.normal,⟨t,ds⟩,H2)
 | _=>none
@[simp] theorem lastO_val (v:Value)(ds:List (FuncId × List Value)):lastO (some (.val v,H)) t ds=some (.normal,⟨t,ds⟩,H):=id rfl
theorem exLast_go {q:LateQ}{z:Value}{r:Nat}{ds:List (FuncId × List Value)}{t':List Value}{H1:Heap}(h1:r<H1.n)(h2:H1.get r = .dead):exLast P q z r ds t' H1 =
  lastO (exOp P noCall q.os.op (putA t' (some q.d) (.pointer (some ⟨r,0,none⟩))) (H1.set r (varObj P q.ty z.cells.toList))) (putA t' (some q.d) (.pointer (some ⟨r,0,none⟩))) ds:=by
 unfold exLast lastO
 rw[h2,show Nat.blt r H1.n=true from Nat.ble_eq_true_of_le h1]
 generalize exOp P noCall q.os.op _ _=x
 cases x with
 | none=>rfl
 | some p=>obtain⟨o,H2⟩:=p;cases o<;>rfl
theorem code_late {ops:Array Oper}(hp:planOf P ops.toList=none){q:LateQ}(hla:lateAt ops.toList=some q){pl:List (Option (Nat × Nat))}(hpl:planOf P (lateA ops.toList)=some pl){z:Value}(hz:zeroT P q.ty=some z)(id:Nat)(s:St)(H:Heap) :
  (run P E).code (.region id ops true) s H=lateF P (run P E).call (lateA ops.toList) pl q z H s.ds (exText P (run P E).call (lateA ops.toList) (lateA ops.toList) s.t (H.push .dead)):=by
 rw[run_code]
 show exDraw P (run P E).call ops.toList s H=_
 unfold exDraw
 rw[hp]
 simp only[]
 unfold exNoPlan
 rw[hla]
 simp only[]
 unfold exLate2 lateF
 rw[hz,hpl]
 simp only[]
 cases exText P (run P E).call (lateA ops.toList) (lateA ops.toList) s.t (H.push .dead)with
 | none=>rfl
 | some q=>obtain⟨a,b,c,d⟩:=q;rfl
attribute [simp] touchR readR idsO idsV mapIds needR clashP apartP Heap.room
end Go.Vm
namespace Go.Vm
open Go.RowKit
variable {P:Program} {N:Th} {W0:World} {L:Lay} {H:Heap} {w:World}
def isTrueOut:Option (Out × Heap)→Bool
 | some (.val (.bool b),_)=>b
 | _=>false
theorem calls_of_runT (hm:P.follows .mixedOrders=true){E:Hooks}{T:List (Nat × Obj)}{f:FuncId}{fn:Func}{c:Code}(hf:P.funcs[f]? = some fn)(hb:fn.body=some c){args args':List Value}{v:Value}{H':Heap}
  (h:(run P E).call f args H=some (.val v,H')) (hv:ground v=true) (hE:∀ N W0,Tabs T N W0→CallOK P N W0 E.run) (hT:Tabs T w.heap.size w) (S:Sim w.heap.size w L H w) (ha:LR L args args') :
  Calls P f ⟨args'⟩ w fun e w'=>e = .returned v∧Below w.heap.size w w':=by
 rcases run_soundT hm hE hT f args H _ H' h L w args' S ha with⟨fn',h1,h2,h3,h4⟩ | ⟨v',w',h1,h2⟩
 · refine h4.mono fun e w' hx => ?_
   obtain⟨L',l1,l2,l3⟩:=hx
   refine⟨?_,l2.below⟩
   cases e with
   | returned v' =>
    have l4:VR L' v v':=l3
    rw[l4.ground_eq hv]
   | _=>exact l3.elim
 · exfalso
   unfold callFunc at h1
   simp only[Sem.run_bind,run_program,Result.andThen_ok,hf]at h1
   by_cases hn : (fn.name == "runtime.NumGoroutine") = true
   · rw[if_pos hn]at h1
     cases h1
   · rw[if_neg hn,if_neg (by rw[hb];simp)]at h1
     cases h1
theorem calls_of_run (hm:P.follows .mixedOrders=true){E:Hooks}{f:FuncId}{fn:Func}{c:Code}(hf:P.funcs[f]? = some fn)(hb:fn.body=some c){args args':List Value}{v:Value}{H':Heap}
  (h:(run P E).call f args H=some (.val v,H')) (hv:ground v=true) (hE:∀ N W0,CallOK P N W0 E.run) (S:Sim w.heap.size w L H w) (ha:LR L args args') :
  Calls P f ⟨args'⟩ w fun e w'=>e = .returned v∧Below w.heap.size w w':=calls_of_runT hm hf hb h hv (fun N W0 _=>hE N W0) Tabs.nil S ha
end Go.Vm
namespace Go.Vm
open Go.RowKit
variable {P:Program} {E:Hooks}
def dstsOf:Code→List Nat
 | .region _ ops _=>ops.toList.filterMap (·.dst)
 | .seq a b=>dstsOf a++dstsOf b
 | .cond _ a b=>dstsOf a++dstsOf b
 | .block _ c=>dstsOf c
 | .loop c=>dstsOf c
 | .scope c=>dstsOf c
 | _=>[]
def Kept (ds:List Nat)(t t':List Value):Prop:=t'.length=t.length∧∀ k,k ∉ ds→rd t' k=rd t k
theorem Kept.refl (ds:List Nat)(t:List Value):Kept ds t t:=⟨rfl,fun _ _=>rfl⟩
theorem Kept.trans {ds:List Nat}{t t' t'':List Value}(h:Kept ds t t')(k:Kept ds t' t''):Kept ds t t'':=⟨k.1.trans h.1,fun i hi=>(k.2 i hi).trans (h.2 i hi)⟩
theorem Kept.mono {ds ds':List Nat}{t t':List Value}(h:Kept ds t t')(hs:∀ k∈ds,k∈ds'):Kept ds' t t':=⟨h.1,fun i hi=>h.2 i fun h=>hi (hs i h)⟩
theorem rd_set_ne (t:List Value)(d k:Nat)(v:Value)(h:d≠k):rd (t.set d v) k=rd t k:=by
 unfold rd
 rw[List.getD_eq_getElem?_getD,List.getD_eq_getElem?_getD,List.getElem?_set_ne h]
theorem Kept.put {ds:List Nat}{t:List Value}(dst:Option Tmp)(v:Value)(h:∀ d,dst=some d→d∈ds):Kept ds t (putA t dst v):=by
 cases dst with
 | none=>exact .refl _ _
 | some d=>exact⟨by simp[putA],fun k hk=>rd_set_ne t d k v fun e=>hk (e ▸ h d rfl)⟩
theorem kept_list {call:CallA}{ops:List Oper}:∀ {rest:List Oper}{s:St}{H:Heap}{e:ExA}{s':St}{H':Heap},exList P call ops rest s H=some (e,s',H')→Kept (rest.filterMap (·.dst)) s.t s'.t
 | [], s, H, e, s', H', h => by
  simp only[exList,Option.some.injEq,Prod.mk.injEq]at h
  obtain⟨rfl,rfl,rfl⟩:=h
  exact .refl _ _
 | o :: rest, s, H, e, s', H', h => by
  have hsub:∀ k∈rest.filterMap (·.dst),k∈(o :: rest).filterMap (·.dst):=fun k hk=>by
   simp only[List.mem_filterMap,List.mem_cons]at hk ⊢
   obtain⟨a,h1,h2⟩:=hk
   exact⟨a,.inr h1,h2⟩
  have hd:∀ d,o.dst=some d→d∈(o :: rest).filterMap (·.dst):=fun d hd=>List.mem_filterMap.2 ⟨o,by simp,hd⟩
  simp only[exList]at h
  split at h
  · exact (Kept.put o.dst undef hd).trans ((kept_list h).mono hsub)
  · split at h
    · split at h
      · exact (Kept.put o.dst undef hd).trans ((kept_list h).mono hsub)
      · cases h
    · split at h
      · cases h
      · simp only[Option.some.injEq,Prod.mk.injEq]at h
        obtain⟨rfl,rfl,rfl⟩:=h
        exact .refl _ _
      · exact (Kept.put o.dst _ hd).trans ((kept_list h).mono hsub)
theorem kept_text {call:CallA}{ops:List Oper}:∀ {rest:List Oper}{t:List Value}{H:Heap}{tr:List (List Value × Value)}{hs:List Heap}{t':List Value}{H2:Heap},exText P call ops rest t H=some (tr,hs,t',H2)→Kept (rest.filterMap (·.dst)) t t'
 | [], t, H, tr, hs, t', H2, h => by
  simp only[exText,Option.some.injEq,Prod.mk.injEq]at h
  obtain⟨rfl,rfl,rfl,rfl⟩:=h
  exact .refl _ _
 | o :: rest, t, H, tr, hs, t', H2, h => by
  have hsub:∀ k∈rest.filterMap (·.dst),k∈(o :: rest).filterMap (·.dst):=fun k hk=>by
   simp only[List.mem_filterMap,List.mem_cons]at hk ⊢
   obtain⟨a,h1,h2⟩:=hk
   exact⟨a,.inr h1,h2⟩
  have hd:∀ d,o.dst=some d→d∈(o :: rest).filterMap (·.dst):=fun d hd=>List.mem_filterMap.2 ⟨o,by simp,hd⟩
  simp only[exText]at h
  split at h
  · cases h
  · rename_i v H' h1
    split at h
    · cases h
    · rename_i tr1 hs1 t1 H3 h2
      have:=kept_text h2
      split at h <;>
       (simp only [Option.some.injEq, Prod.mk.injEq] at h
        obtain⟨_,_,rfl,rfl⟩:=h
        exact (Kept.put o.dst _ hd).trans (this.mono hsub))
theorem findLabel_dsts:∀ {c:Code}{l:Nat}{r:Code},findLabel c l=some r→∀ k∈dstsOf r,k∈dstsOf c:=by
 intro c
 induction c with
 | seq a b iha ihb =>
  intro l r h k hk
  simp only[findLabel]at h
  split at h
  · rename_i rest hr
    simp only[Option.some.injEq]at h
    subst h
    simp only[dstsOf,List.mem_append]at hk ⊢
    exact hk.imp (iha hr k) id
  · simp only[dstsOf,List.mem_append]
    exact .inr (ihb h k hk)
 | label l' =>
  intro l r h k hk
  simp only[findLabel]at h
  split at h
  · simp only[Option.some.injEq]at h;subst h;simp[dstsOf]at hk
  · cases h
 | _=>intro l r h;simp[findLabel]at h
structure KeptR (r:Runs):Prop where
 code:∀ {c s H e s' H'},r.code c s H=some (e,s',H')→Kept (dstsOf c) s.t s'.t
 scope:∀ {b c s H e s' H'},r.scope b c s H=some (e,s',H')→Kept (dstsOf b++dstsOf c) s.t s'.t
theorem kept_then {r:Runs}(hr:KeptR r){c d:Code}{ds:List Nat}(h1:∀ k∈dstsOf c,k∈ds)(h2:∀ k∈dstsOf d,k∈ds){s:St}{H:Heap}{e:ExA}{s':St}{H':Heap}
  (h:(match r.code c s H with | some (.normal,s',H')=>r.code d s' H' | x=>x)=some (e,s',H')):Kept ds s.t s'.t:=by
 obtain⟨e1,s1,H1,k1,k2,k3⟩:=next_some h
 by_cases he:e1 = .normal
 · exact ((hr.code k1).mono h1).trans ((hr.code (k2 he)).mono h2)
 · obtain⟨rfl,rfl,rfl⟩:=k3 he
   exact (hr.code k1).mono h1
theorem kept_freeT {call:CallA}{ops:List Oper}:∀ {rest:List Oper}{t:List Value}{r:Nat}{H:Heap}{st:List StepR}{t':List Value}{H2:Heap},exFreeT P call ops rest t r H=some (st,t',H2)→Kept (rest.filterMap (·.dst)) t t'
 | [], t, r, H, st, t', H2, h => by
  simp only[exFreeT,Option.some.injEq,Prod.mk.injEq]at h
  obtain⟨rfl,rfl,rfl⟩:=h
  exact .refl _ _
 | o :: rest, t, r, H, st, t', H2, h => by
  have hsub:∀ k∈rest.filterMap (·.dst),k∈(o :: rest).filterMap (·.dst):=fun k hk=>by
   simp only[List.mem_filterMap,List.mem_cons]at hk ⊢
   obtain⟨a,h1,h2⟩:=hk
   exact⟨a,.inr h1,h2⟩
  have hd:∀ d,o.dst=some d→d∈(o :: rest).filterMap (·.dst):=fun d hd=>List.mem_filterMap.2 ⟨o,by simp,hd⟩
  simp only[exFreeT]at h
  split at h
  · cases h
  · split at h
    · cases h
    · rename_i h2
      simp only[Option.some.injEq,Prod.mk.injEq]at h
      obtain⟨rfl,rfl,rfl⟩:=h
      exact (Kept.put o.dst _ hd).trans ((kept_freeT h2).mono hsub)
theorem kept_free {call:CallA}{ops:List Oper}{s:St}{H:Heap}{e:ExA}{s':St}{H':Heap}(h:exFree P call ops s H=some (e,s',H')):Kept (ops.filterMap (·.dst)) s.t s'.t:=by
 unfold exFree at h
 split at h
 · cases h
 · split at h
   · cases h
   · rename_i ht
     split at h
     · simp only[Option.some.injEq,Prod.mk.injEq]at h
       obtain⟨rfl,rfl,rfl⟩:=h
       exact kept_freeT ht
     · cases h
theorem kept_noplan {call:CallA}{ops:List Oper}{s:St}{H:Heap}{e:ExA}{s':St}{H':Heap}(h:exNoPlan P call ops s H=some (e,s',H')):Kept (ops.filterMap (·.dst)) s.t s'.t:=by
 unfold exNoPlan at h
 split at h
 · rename_i q hq
   have hp:=late_ok hq
   unfold exLate2 at h
   split at h
   · split at h
     · cases h
     · rename_i ht
       split at h
       · unfold exLast at h
         split at h
         · split at h
           · simp only[Option.some.injEq,Prod.mk.injEq]at h
             obtain⟨rfl,rfl,rfl⟩:=h
             obtain⟨oa,g1,_,g3,_⟩:=hp.alloc
             refine ((kept_text ht).mono fun k hk => ?_).trans (Kept.put (some q.d) _ fun d hd => ?_)
             · simp only[List.mem_filterMap]at hk ⊢
               obtain⟨o',h1,h2⟩:=hk
               obtain⟨i,hi⟩:=List.getElem?_of_mem h1
               obtain⟨_,o,h3,rfl⟩:=lateA_of hi
               refine⟨o,List.mem_of_getElem? h3,?_⟩
               unfold blank at h2
               split at h2
               · cases h2
               · exact h2
             · simp only[Option.some.injEq]at hd
               subst hd
               exact List.mem_filterMap.2 ⟨oa,List.mem_of_getElem? g1,g3⟩
           · cases h
         · cases h
       · cases h
   · cases h
 · exact kept_free h
theorem kept_code {r:Runs}(hr:KeptR r){c:Code}{s:St}{H:Heap}{e:ExA}{s':St}{H':Heap}(h:exCode P r (exDraw P r.call) c s H=some (e,s',H')):Kept (dstsOf c) s.t s'.t:=by
 have same:∀ {x:ExA},some (x,s,H)=some (e,s',H')→Kept (dstsOf c) s.t s'.t:=by
  intro x h
  simp only[Option.some.injEq,Prod.mk.injEq]at h
  obtain⟨rfl,rfl,rfl⟩:=h
  exact .refl _ _
 cases c with
 | region id ops draw =>
  cases draw with
  | false=>exact kept_list h
  | true =>
   have h':exDraw P r.call ops.toList s H=some (e,s',H'):=h
   unfold exDraw at h'
   split at h'
   · exact kept_noplan h'
   · split at h'
     · cases h'
     · rename_i ht
       split at h'
       · simp only[Option.some.injEq,Prod.mk.injEq]at h'
         obtain⟨rfl,rfl,rfl⟩:=h'
         exact kept_text ht
       · cases h'
 | seq a b=>exact kept_then hr (fun k hk=>by simp[dstsOf,hk]) (fun k hk=>by simp[dstsOf,hk]) h
 | cond x a b =>
  simp only[exCode]at h
  split at h
  · exact (hr.code h).mono fun k hk=>by simp[dstsOf,hk]
  · exact (hr.code h).mono fun k hk=>by simp[dstsOf,hk]
  · cases h
 | block id c =>
  simp only[exCode]at h
  cases hc:r.code c s H with
  | none=>rw[hc]at h;cases h
  | some p =>
   obtain⟨e1,s1,H1⟩:=p
   rw[hc]at h
   have:=hr.code hc
   cases e1 with
   | exit i =>
    simp only[]at h
    cases hb:Nat.beq i id<;>(simp only[hb,Option.some.injEq,Prod.mk.injEq]at h;obtain⟨rfl,rfl,rfl⟩:=h;exact this)
   | _=>simp only[Option.some.injEq,Prod.mk.injEq]at h;obtain⟨rfl,rfl,rfl⟩:=h;exact this
 | loop c=>exact kept_then (c:=c) (d := .loop c) hr (fun k hk=>hk) (fun k hk=>hk) h
 | scope c=>exact (hr.scope h).mono fun k hk=>by simpa [dstsOf] using hk
 | skip=>exact same h
 | label l=>exact same h
 | exit i=>exact same h
 | goto l=>exact same h
 | ret=>exact same h
 | _=>simp[exCode]at h
theorem kept_scope {r:Runs}(hr:KeptR r){b c:Code}{s:St}{H:Heap}{e:ExA}{s':St}{H':Heap}(h:exScope r b c s H=some (e,s',H')):Kept (dstsOf b++dstsOf c) s.t s'.t:=by
 unfold exScope at h
 cases hc:r.code c s H with
 | none=>rw[hc]at h;cases h
 | some p =>
  obtain⟨e1,s1,H1⟩:=p
  rw[hc]at h
  have k1:=(hr.code hc).mono (ds':=dstsOf b++dstsOf c) fun k hk=>by simp[hk]
  cases e1 with
  | goto l =>
   simp only[]at h
   cases hf:findLabel b l with
   | none=>rw[hf]at h;simp only[Option.some.injEq,Prod.mk.injEq]at h;obtain⟨rfl,rfl,rfl⟩:=h;exact k1
   | some rest =>
    rw[hf]at h
    refine k1.trans ((hr.scope h).mono fun k hk => ?_)
    simp only[List.mem_append]at hk ⊢
    exact .inl (hk.elim id (findLabel_dsts hf k))
  | _=>simp only[Option.some.injEq,Prod.mk.injEq]at h;obtain⟨rfl,rfl,rfl⟩:=h;exact k1
theorem kept_runs:∀ n,KeptR (runs P E n)
 | 0=>⟨fun h=>by simp[runs]at h,fun h=>by simp[runs]at h⟩
 | n+1=>⟨fun h=>kept_code (kept_runs n) h,fun h=>kept_scope (kept_runs n) h⟩
theorem kept_run {c:Code}{s:St}{H:Heap}{e:ExA}{s':St}{H':Heap}(h:(run P E).code c s H=some (e,s',H')):Kept (dstsOf c) s.t s'.t:=by
 obtain⟨n,hn⟩:=lim_some h
 exact (kept_runs n).code hn
theorem Fr_nil (t:List Value):Fr t []=t:=by unfold Fr;rfl
end Go.Vm
namespace Go.Vm
open Go.RowKit
variable {P:Program} {E:Hooks}
def Ends (r:ResA)(Q:ExA→St→Heap→Prop):Prop:=∃ e s H,r=some (e,s,H)∧Q e s H
@[simp] theorem Ends_some (e:ExA)(s:St)(H:Heap)(Q:ExA→St→Heap→Prop):Ends (some (e,s,H)) Q↔Q e s H :=
 ⟨fun ⟨e',s',H',h,q⟩=>by simp only[Option.some.injEq,Prod.mk.injEq]at h;obtain⟨rfl,rfl,rfl⟩:=h;exact q,fun q=>⟨e,s,H,rfl,q⟩⟩
theorem Ends.mono {r:ResA}{Q Q':ExA→St→Heap→Prop}(h:Ends r Q)(k:∀ e s H,Q e s H→Q' e s H):Ends r Q':=let ⟨e,s,H,h1,h2⟩:=h;⟨e,s,H,h1,k _ _ _ h2⟩
def Gives (r:Option (Out × Heap))(Q:Out→Heap→Prop):Prop:=∃ o H,r=some (o,H)∧Q o H
@[simp] theorem Gives_some (o:Out)(H:Heap)(Q:Out→Heap→Prop):Gives (some (o,H)) Q↔Q o H :=
 ⟨fun ⟨o',H',h,q⟩=>by simp only[Option.some.injEq,Prod.mk.injEq]at h;obtain⟨rfl,rfl⟩:=h;exact q,fun q=>⟨o,H,rfl,q⟩⟩
theorem Gives.mono {r:Option (Out × Heap)}{Q Q':Out→Heap→Prop}(h:Gives r Q)(k:∀ o H,Q o H→Q' o H):Gives r Q':=let ⟨o,H,h1,h2⟩:=h;⟨o,H,h1,k _ _ h2⟩
theorem loop_ends {c:Code}{Q:ExA→St→Heap→Prop}(I:Nat→List Value→Heap→Prop)
  (step:∀ m t H,I m t H→Ends ((run P E).code c ⟨t,[]⟩ H) fun e s H'=>(e = .normal∧s.ds=[]∧∃ m',m'<m∧I m' s.t H')∨(e ≠ .normal∧Q e s H')) :
  ∀ m t H,I m t H→Ends ((run P E).code (.loop c) ⟨t,[]⟩ H) Q:=by
 intro m
 induction m using Nat.strongRecOn with
 | _ m ih =>
  intro t H h
  obtain⟨e,s,H',h1,h2⟩:=step m t H h
  rw[code_loop,h1]
  rcases h2 with⟨rfl,hd,m',hlt,hI⟩ | ⟨hn,hq⟩
  · obtain⟨t',ds'⟩:=s
    simp only at hd
    subst hd
    rw[thenA_normal]
    exact ih m' hlt t' H' hI
  · cases e with
    | normal=>exact absurd rfl hn
    | exit i=>rw[thenA_exit];exact⟨_,_,_,rfl,hq⟩
    | goto i=>rw[thenA_goto];exact⟨_,_,_,rfl,hq⟩
    | ret=>rw[thenA_ret];exact⟨_,_,_,rfl,hq⟩
    | pan v=>rw[thenA_pan];exact⟨_,_,_,rfl,hq⟩
end Go.Vm
namespace Go.Vm
theorem wrap64 (x:Int)(h1 : -9223372036854775808≤x)(h2:x≤9223372036854775807):IntKind.i64.wrap x=x:=Go.IntWalk.i64_in x ⟨h1,h2⟩
theorem Gives.true {r:Option (Out × Heap)}(h:Gives r fun o _=>o = .val (.bool true)):∃ H',r=some (.val (.bool true),H'):=by
 obtain⟨o,H,h1,rfl⟩:=h
 exact⟨H,h1⟩
structure Same (X:Nat→Prop)(H H':Heap):Prop where
 n:H.n≤H'.n
 get:∀ i,i<H.n→¬X i→H'.get i=H.get i
theorem Same.refl (X:Nat→Prop)(H:Heap):Same X H H:=⟨Nat.le_refl _,fun _ _ _=>rfl⟩
theorem Same.trans {X:Nat→Prop}{A B C:Heap}(h:Same X A B)(k:Same X B C):Same X A C:=⟨Nat.le_trans h.n k.n,fun i hi hx=>(k.get i (Nat.lt_of_lt_of_le hi h.n) hx).trans (h.get i hi hx)⟩
theorem Same.mono {X Y:Nat→Prop}{A B:Heap}(h:Same X A B)(hxy:∀ i,X i→Y i):Same Y A B:=⟨h.n,fun i hi hy=>h.get i hi fun hx=>hy (hxy i hx)⟩
theorem Same.push (X:Nat→Prop)(H:Heap)(o:AObj):Same X H (H.push o):=⟨Nat.le_succ _,fun i hi _=>by rw[Heap.get_push,if_neg (Nat.ne_of_lt hi)]⟩
theorem Same.set {X:Nat→Prop}(H:Heap){i:Nat}(hi:i<H.n)(hx:X i)(o:AObj):Same X H (H.set i o):=⟨Nat.le_refl _,fun j _ hj=>by rw[Heap.get_set H i o hi,if_neg (fun (e:j=i)=>hj (by rw[e];exact hx))]⟩
theorem Same.at {X:Nat→Prop}{H H':Heap}(h:Same X H H'){i:Nat}{o:AObj}(hg:H.get i=o)(hd:o ≠ .dead)(hx:¬X i):H'.get i=o:=by
 rw[h.get i (Heap.lt_of_get hg hd) hx];exact hg
theorem Tr.set_set (o o':AObj):∀ (f:Nat)(t:Tr)(i:Nat),Tr.set f (Tr.set f t i o) i o'=Tr.set f t i o':=by
 intro f
 induction f with
 | zero=>intro t i;rfl
 | succ f ih =>
  intro t i
  cases t with
  | leaf =>
   simp only[Tr.set]
   cases hi:Nat.beq i 0 with
   | true=>simp only[Tr.set,hi]
   | false =>
    simp only[]
    cases hp:Nat.beq (i % 2) 1 with
    | true=>simp only[Tr.set,hi,hp,ih]
    | false=>simp only[Tr.set,hi,hp,ih]
  | node p l r =>
   simp only[Tr.set]
   cases hi:Nat.beq i 0 with
   | true=>simp only[Tr.set,hi]
   | false =>
    simp only[]
    cases hp:Nat.beq (i % 2) 1 with
    | true=>simp only[Tr.set,hi,hp,ih]
    | false=>simp only[Tr.set,hi,hp,ih]
@[simp] theorem Heap.push_set (H:Heap)(o o':AObj):(H.push o).set H.n o'=H.push o':=by
 unfold Heap.push Heap.set
 simp only[Tr.set_set]
@[simp] theorem Heap.get_push_self (H:Heap)(o:AObj):(H.push o).get H.n=o:=by rw[Heap.get_push,if_pos rfl]
theorem Heap.get_push_lt (H:Heap)(o:AObj){i:Nat}(h:i<H.n):(H.push o).get i=H.get i:=by rw[Heap.get_push,if_neg (Nat.ne_of_lt h)]
end Go.Vm
namespace Go.Vm
open Go.RowKit
variable {P:Program} {N:Th} {W0:World} {L:Lay} {H:Heap} {w:World}
theorem Sim.lent (S:Sim N W0 L H w){b o:Nat}(hb:b<N.n){cs:List Value}(hc:∀ j (h:j<cs.length),w.cell? ⟨b,o+j,none⟩=some cs[j])(hg:groundL cs=true)(h1:One cs) :
  Sim N W0 (upd L H.n (b,o,0)) (H.push (.row false 0 0 cs)) w:=by
 refine S.put _ (b,o,0) ⟨fun k hk=>⟨cs[k],hc k hk,(groundL_LR _ cs hg).2 k hk hk⟩,h1,fun _=>rfl,fun _=>hb,fun h=>by cases h⟩ ?_ (fun h=>by have:N.n≤b:=h;omega)
 intro j b' k h
 exact h.elim
section
variable {D:Type} {enc:TypeId × Value→D} {base:Nat} {spare:Nat→Bool} {held:Bool}
theorem okWide_spot {t e:TypeId}(ht:P.underlying t=some (.slice e)){a:Addr}{len cap:Nat}(h:Value.okWide P w .any base t (.slice (some a) len cap)):a.spot=none∧a.block<w.heap.size:=by
 unfold Value.okWide at h
 rw[ht]at h
 simp only at h
 unfold Cell.okWide at h
 rw[ht]at h
 simp only at h
 unfold Cell.ok at h
 rw[ht]at h
 simp only at h
 obtain⟨_,_,_,h2,row,cells,h3,_⟩:=h
 refine⟨h2,?_⟩
 unfold World.shape? at h3
 cases hh:w.heap[a.block]? with
 | none=>rw[hh]at h3;cases h3
 | some o=>exact (Array.getElem?_eq_some_iff.1 hh).1
theorem open_cells {b0:Nat}{t e:TypeId}{p:Value→Prop}{v:Value}{d:DataW D}{ps:List MemPlace}(ht:P.underlying t=some (.slice e))(hpos:0<P.cellsOf e)
  (he:∀ fuel cs x,DataW.trod enc P w base (fun _=>true) held fuel e cs=some x→∀ c∈cs,p c)
  (hval:Value.okWide P w .any b0 t v) (hd:DataW.Trod enc P w base (fun _=>true) held t v d ps) :
  v = .slice none 0 0∨∃ (b o len cap:Nat),v = .slice (some ⟨b,o,none⟩) len cap∧b<w.heap.size∧len≤cap∧cap≤maxLen ∧
   ∀ j,j<cap * P.cellsOf e→∃ c,w.cell? ⟨b,o+j,none⟩=some c∧p c:=by
 obtain⟨a,len,cap,rfl⟩:=WideShapes.okWide_slice ht hval
 obtain⟨fuel,hf⟩:=hd
 have hcells:(Value.slice a len cap).cells.toList=[.slice a len cap]:=rfl
 rw[hcells]at hf
 rcases Go.Deep.open_slice ht hf with⟨h0,_⟩ | ⟨a',len',cap',m,n,Df,Pl,h0,hb,hl,hm,hmm,_,hx⟩
 · simp only[List.cons.injEq,and_true]at h0
   exact .inl h0
 · simp only[List.cons.injEq,Value.slice.injEq,and_true]at h0
   obtain⟨rfl,rfl,rfl⟩:=h0
   obtain⟨hsp,hlt⟩:=okWide_spot ht hval
   obtain⟨b,o,sp⟩:=a'
   simp only at hsp hlt
   subst hsp
   refine .inr ⟨b,o,len,cap,rfl,hlt,hl,hm,fun j hj => ?_⟩
   simp only[if_true]at hmm
   subst hmm
   have hi:j / P.cellsOf e<m:=Nat.div_lt_of_lt_mul (by rwa [Nat.mul_comm]at hj)
   obtain⟨cs',h1,h2⟩:=hx (j / P.cellsOf e) hi
   obtain⟨_,h3,h4⟩:=World.cells?_some h1
   have hr:j % P.cellsOf e<P.cellsOf e:=Nat.mod_lt _ hpos
   have h5:=h4 (j % P.cellsOf e) hr
   have e1:((⟨b,o,none⟩:Addr).add (j / P.cellsOf e * P.cellsOf e)).add (j % P.cellsOf e)=⟨b,o+j,none⟩:=by
    rw[Addr.add_mid,Addr.add_mid]
    have:=Nat.div_add_mod j (P.cellsOf e)
    rw[Nat.mul_comm]at this
    congr 1
    omega
   rw[e1,List.getElem?_eq_getElem (by omega)]at h5
   exact⟨_,h5,he _ _ _ h2 _ (List.getElem_mem _)⟩
theorem cells_list {p:Value→Prop}{b o n:Nat}(h:∀ j,j<n→∃ c,w.cell? ⟨b,o+j,none⟩=some c∧p c):∃ cs:List Value,cs.length=n∧(∀ j (h:j<cs.length),w.cell? ⟨b,o+j,none⟩=some cs[j])∧∀ c∈cs,p c:=by
 induction n with
 | zero=>exact⟨[],rfl,fun j h=>by simp at h,fun c h=>by simp at h⟩
 | succ n ih =>
  obtain⟨cs,h1,h2,h3⟩:=ih fun j hj=>h j (by omega)
  obtain⟨c,h4,h5⟩:=h n (by omega)
  refine⟨cs++[c],by simp[h1],fun j hj => ?_,fun c' hc => ?_⟩
  · simp only[List.length_append,List.length_cons,List.length_nil]at hj
    by_cases e:j<cs.length
    · rw[List.getElem_append_left e];exact h2 j e
    · have:j=n:=by omega
      subst this
      rw[List.getElem_append_right (by omega)]
      simpa using h4
  · rcases List.mem_append.1 hc with hc | hc
    · exact h3 c' hc
    · simp only[List.mem_singleton]at hc;subst hc;exact h5
def isInt (k:IntKind)(c:Value):Prop:=∃ n,c = .int k n∧k.min≤n∧n≤k.max
theorem wf_int {k:IntKind}{n:Int}(h:(Lit.int k n).wf=true):k.min≤n∧n≤k.max:=by
 simpa [Lit.wf] using h
theorem trod_isInt {e:TypeId}{k:IntKind}(he:P.underlying e=some (.int k)):∀ fuel cs x,DataW.trod enc P w base spare held fuel e cs=some x→∀ c∈cs,isInt k c:=by
 intro fuel cs x h c hc
 obtain⟨n,rfl,_,hw⟩:=DataW.trod_int he h
 simp only[List.mem_singleton]at hc
 exact⟨n,hc,wf_int hw⟩
end
theorem ints_ground {k:IntKind}:∀ {cs:List Value},(∀ c∈cs,isInt k c)→groundL cs=true∧One cs
 | [],_=>⟨rfl,One.nil⟩
 | c :: cs, h => by
  obtain⟨n,rfl,_⟩:=h c (by simp)
  have ih:=ints_ground (cs:=cs) fun c hc=>h c (List.mem_cons_of_mem _ hc)
  exact⟨by simp only[groundL,ground_int,ih.1,Bool.and_self],fun i hi=>by cases i with | zero=>rfl | succ i=>exact ih.2 i (by simpa using hi)⟩
end Go.Vm
namespace Go.Vm
open Go.RowKit
variable {P:Program} {N:Th} {W0:World} {L:Lay} {H:Heap} {w:World}
theorem Sim.none (S:Sim N W0 L H w):Sim N W0 L (H.push .dead) w where
 calm:=S.calm
 below:=S.below
 base:=S.base
 ghost:=S.ghost
 void:=fun id h=>⟨by have:=(S.void id h).1;simp;omega,(S.void id h).2⟩
 fresh:=fun id h=>S.fresh id (by simp at h;omega)
 obj:=fun id=>by
  rw[Heap.get_push]
  by_cases c:id=H.n
  · rw[if_pos c];trivial
  · rw[if_neg c];exact S.obj id
 apart:=fun i j b k hij h1 h2=>by
  rw[Heap.get_push]at h1 h2
  by_cases c:i=H.n
  · rw[if_pos c]at h1;exact h1.elim
  · by_cases c2:j=H.n
    · rw[if_pos c2]at h2;exact h2.elim
    · rw[if_neg c]at h1;rw[if_neg c2]at h2
      exact S.apart i j b k hij h1 h2
def FlatArg (p:Value→Prop)(n k:Nat)(x:Value)(o:AObj):Prop :=
 ∃ base len cap cs,x = .slice base len cap∧len≤cap∧cap≤maxLen∧cs.length=cap * n∧(∀ c∈cs,p c) ∧
  ((base=Option.none∧o = .dead∧len=0∧cap=0)∨(base=some ⟨k,0,Option.none⟩∧o = .row false 0 0 cs))
section
variable {D:Type} {enc:TypeId × Value→D} {base:Nat}
theorem Sim.flat {b0:Nat}(S:Sim w.heap.size w L H w){t e:TypeId}{p:Value→Prop}{v:Value}{d:DataW D}{ps:List MemPlace}(ht:P.underlying t=some (.slice e))(hpos:0<P.cellsOf e)
  (he:∀ fuel cs x,DataW.trod enc P w base (fun _=>true) true fuel e cs=some x→∀ c∈cs,p c) (hg:∀ cs,(∀ c∈cs,p c)→groundL cs=true∧One cs)
  (hval:Value.okWide P w .any b0 t v) (hd:DataW.Trod enc P w base (fun _=>true) true t v d ps) :
  ∃ x o L',FlatArg p (P.cellsOf e) H.n x o∧Sim w.heap.size w L' (H.push o) w∧L.le L'∧VR L' x v:=by
 rcases open_cells ht hpos he hval hd with rfl | ⟨b,o,len,cap,rfl,hb,h1,h2,h3⟩
 · exact⟨.slice Option.none 0 0,.dead,L,⟨_,_,_,[],rfl,Nat.le_refl _,Nat.zero_le _,by simp,(fun c h=>by cases h),.inl ⟨rfl,rfl,rfl,rfl⟩⟩,S.none,Lay.le_refl L,.snil _ _⟩
 · obtain⟨cs,h4,h5,h6⟩:=cells_list h3
   refine⟨.slice (some ⟨H.n,0,Option.none⟩) len cap,.row false 0 0 cs,upd L H.n (b,o,0),⟨_,_,_,cs,rfl,h1,h2,h4,h6,.inr ⟨rfl,rfl⟩⟩,S.lent hb h5 (hg cs h6).1 (hg cs h6).2,upd_le (S.fresh _ (Nat.le_refl _)),?_⟩
   have:=VR.slice (L:=upd L H.n (b,o,0)) H.n 0 len cap b o 0 (upd_same _ _ _)
   simpa using this
end
theorem LR.nil':LR L [] []:=⟨rfl,fun i h=>by simp at h⟩
theorem LR.snoc {x x':List Value}{v v':Value}(h:LR L x x')(k:VR L v v'):LR L (x++[v]) (x'++[v']):=by
 refine⟨by simp[h.1],fun i h1 h2 => ?_⟩
 by_cases c:i<x.length
 · rw[List.getElem_append_left c,List.getElem_append_left (by rw[← h.1];exact c)]
   exact h.2 i c _
 · have e:i=x.length:=by simp at h1;omega
   subst e
   rw[List.getElem_append_right (Nat.le_refl _),List.getElem_append_right (by rw[h.1];exact Nat.le_refl _)]
   simpa [h.1] using k
theorem LR.mono' {L':Lay}{x x':List Value}(hl:L.le L')(h:LR L x x'):LR L' x x':=⟨h.1,fun i h1 h2=>(h.2 i h1 h2).mono hl⟩
theorem VR.ground (v:Value)(h:ground v=true):VR L v v:=ground_VR L v h
theorem calls_true (hm:P.follows .mixedOrders=true){E:Hooks}{f:FuncId}{fn:Func}{c:Code}(hf:P.funcs[f]? = some fn)(hb:fn.body=some c){args args':List Value}
  (h:Gives ((run P E).call f args H) fun o _=>o = .val (.bool true)) (hE:∀ N W0,CallOK P N W0 E.run) (S:Sim w.heap.size w L H w) (ha:LR L args args') :
  Calls P f ⟨args'⟩ w fun e w'=>e = .returned (.bool true)∧Below w.heap.size w w':=by
 obtain⟨o,H',h1,rfl⟩:=h
 exact calls_of_run hm hf hb h1 rfl hE S ha
end Go.Vm
namespace Go.Vm
open Go.RowKit
variable {P:Program} {E:Hooks}
abbrev QA:=ExA→St→Heap→Prop
def bindQ (k:St→Heap→ResA)(Q:QA)(_:Held k):QA:=fun e s H=>match e with
 | .normal=>Ends (k s H) Q
 | e=>Q e s H
def blockQ (id:Nat)(Q:QA):QA:=fun e s H=>match e with
 | .exit i=>if i=id then Q .normal s H else Q (.exit i) s H
 | e=>Q e s H
def stepQ (s:St)(k:Value→Heap→ResA)(Q:QA)(_:Held k):Out→Heap→Prop:=fun o H=>match o with
 | .val v=>Ends (k v H) Q
 | .pan v=>Q (.pan v) s H
def resQ (Q:Out→Heap→Prop)(H:Heap):Option (List Value)→Prop
 | some l=>Q (.val (tupleOf l)) H
 | none=>False
def bodyQ (P:Program)(E:Hooks)(r:Runs)(rs:List ResultVar)(Q:Out→Heap→Prop):QA:=fun e s H =>
 match catAt P E e s.ds with
 | some (q, as, v) => match catRun P r q as v H with
  | some H2=>resQ Q H2 (exResults P rs s.t H2)
  | none=>False
 | none => match exLeave P E r s.ds H with
  | some H2 => match e with
   | .pan v=>recs P s.ds=false∧Q (.pan v) H2
   | .normal | .ret=>resQ Q H2 (exResults P rs s.t H2)
   | _=>False
  | none=>False
@[simp] theorem bindQ_normal (k:St→Heap→ResA)(Q:QA)(h:Held k)(s:St)(H:Heap):bindQ k Q h .normal s H=Ends (k s H) Q:=id rfl
@[simp] theorem bindQ_ret (k:St→Heap→ResA)(Q:QA)(h:Held k)(s:St)(H:Heap):bindQ k Q h .ret s H=Q .ret s H:=id rfl
@[simp] theorem bindQ_pan (k:St→Heap→ResA)(Q:QA)(h:Held k)(v:Value)(s:St)(H:Heap):bindQ k Q h (.pan v) s H=Q (.pan v) s H:=id rfl
@[simp] theorem blockQ_exit (id:Nat)(Q:QA)(i:Nat)(s:St)(H:Heap):blockQ id Q (.exit i) s H=if i=id then Q .normal s H else Q (.exit i) s H:=_root_.id rfl
@[simp] theorem blockQ_normal (id:Nat)(Q:QA)(s:St)(H:Heap):blockQ id Q .normal s H=Q .normal s H:=_root_.id rfl
@[simp] theorem blockQ_ret (id:Nat)(Q:QA)(s:St)(H:Heap):blockQ id Q .ret s H=Q .ret s H:=_root_.id rfl
@[simp] theorem blockQ_pan (id:Nat)(Q:QA)(v:Value)(s:St)(H:Heap):blockQ id Q (.pan v) s H=Q (.pan v) s H:=_root_.id rfl
@[simp] theorem stepQ_val (s:St)(k:Value→Heap→ResA)(Q:QA)(h:Held k)(v:Value)(H:Heap):stepQ s k Q h (.val v) H=Ends (k v H) Q:=id rfl
@[simp] theorem stepQ_pan (s:St)(k:Value→Heap→ResA)(Q:QA)(h:Held k)(v:Value)(H:Heap):stepQ s k Q h (.pan v) H=Q (.pan v) s H:=id rfl
@[simp] theorem resQ_some (Q:Out→Heap→Prop)(H:Heap)(l:List Value):resQ Q H (some l)=Q (.val (tupleOf l)) H:=id rfl
@[simp] theorem bodyQ_ret (r:Runs)(rs:List ResultVar)(Q:Out→Heap→Prop)(t:List Value)(H:Heap):bodyQ P E r rs Q .ret ⟨t,[]⟩ H=resQ Q H (exResults P rs t H):=id rfl
@[simp] theorem bodyQ_normal (r:Runs)(rs:List ResultVar)(Q:Out→Heap→Prop)(t:List Value)(H:Heap):bodyQ P E r rs Q .normal ⟨t,[]⟩ H=resQ Q H (exResults P rs t H):=id rfl
@[simp] theorem bodyQ_pan (r:Runs)(rs:List ResultVar)(Q:Out→Heap→Prop)(v:Value)(t:List Value)(H:Heap):bodyQ P E r rs Q (.pan v) ⟨t,[]⟩ H=Q (.pan v) H:=by
 show (recs P []=false∧Q (.pan v) H)=Q (.pan v) H
 exact propext ⟨fun h=>h.2,fun h=>⟨rfl,h⟩⟩
theorem Ends_none {Q:QA}:¬Ends none Q:=fun ⟨_,_,_,h,_⟩=>by cases h
theorem Gives_none {Q:Out→Heap→Prop}:¬Gives none Q:=fun ⟨_,_,h,_⟩=>by cases h
@[simp] theorem ends_then (r:ResA)(k:St→Heap→ResA)(h:Held k)(Q:QA):Ends (thenA r k h) Q=Ends r (bindQ k Q h):=by
 refine propext ?_
 cases r with
 | none=>exact⟨fun h=>(Ends_none h).elim,fun h=>(Ends_none h).elim⟩
 | some p =>
  obtain⟨e,s,H⟩:=p
  rw[Ends_some]
  cases e with
  | normal=>exact Iff.rfl
  | _=>exact Ends_some _ _ _ _
@[simp] theorem ends_block (id:Nat)(r:ResA)(Q:QA):Ends (blockA id r) Q=Ends r (blockQ id Q):=by
 refine propext ?_
 cases r with
 | none=>exact⟨fun h=>(Ends_none h).elim,fun h=>(Ends_none h).elim⟩
 | some p =>
  obtain⟨e,s,H⟩:=p
  rw[Ends_some]
  cases e with
  | exit i =>
   rw[blockQ_exit,blockA_exit]
   split<;>exact Ends_some _ _ _ _
  | _=>exact Ends_some _ _ _ _
@[simp] theorem ends_step (r:Option (Out × Heap))(s:St)(k:Value→Heap→ResA)(h:Held k)(Q:QA):Ends (stepO r s k h) Q=Gives r (stepQ s k Q h):=by
 refine propext ?_
 cases r with
 | none=>exact⟨fun h=>(Ends_none h).elim,fun h=>(Gives_none h).elim⟩
 | some p =>
  obtain⟨o,H⟩:=p
  rw[Gives_some]
  cases o with
  | val v=>exact Iff.rfl
  | pan v=>exact Ends_some _ _ _ _
@[simp] theorem gives_body (r:Runs)(rs:List ResultVar)(x:ResA)(Q:Out→Heap→Prop):Gives (bodyA P E r rs x) Q=Ends x (bodyQ P E r rs Q):=by
 refine propext ?_
 cases x with
 | none=>exact⟨fun h=>(Gives_none h).elim,fun h=>(Ends_none h).elim⟩
 | some p =>
  obtain⟨e,s,H⟩:=p
  rw[Ends_some]
  unfold bodyA bodyQ
  simp only[]
  cases catAt P E e s.ds with
  | some w =>
   obtain⟨q,as,v⟩:=w
   simp only[]
   cases catRun P r q as v H with
   | none=>exact⟨fun h=>(Gives_none h).elim,fun h=>h.elim⟩
   | some H2 =>
    simp only[]
    cases exResults P rs s.t H2 with
    | none=>exact⟨fun h=>(Gives_none h).elim,fun h=>h.elim⟩
    | some l=>exact Gives_some _ _ _
  | none =>
  simp only[]
  cases exLeave P E r s.ds H with
  | none=>exact⟨fun h=>(Gives_none h).elim,fun h=>h.elim⟩
  | some H2 =>
   simp only[]
   cases e with
   | pan v =>
    simp only[]
    cases recs P s.ds with
    | true=>exact⟨fun h=>(Gives_none h).elim,fun h=>by cases h.1⟩
    | false=>exact⟨fun h=>⟨rfl,by rwa [Gives_some]at h⟩,fun h=>by rw[Gives_some];exact h.2⟩
   | normal => cases exResults P rs s.t H2 with
    | none=>exact⟨fun h=>(Gives_none h).elim,fun h=>h.elim⟩
    | some l=>exact Gives_some _ _ _
   | ret => cases exResults P rs s.t H2 with
    | none=>exact⟨fun h=>(Gives_none h).elim,fun h=>h.elim⟩
    | some l=>exact Gives_some _ _ _
   | _=>exact⟨fun h=>(Gives_none h).elim,fun h=>h.elim⟩
theorem ends_cond {b:Bool}{x y:ResA}{hx:Held x}{hy:Held y}{Q:QA}(h1:b=true→Ends x Q)(h2:b=false→Ends y Q):Ends (condA (some (.bool b)) x y hx hy) Q:=by
 cases b
 · exact h2 rfl
 · exact h1 rfl
def AllRd (t t0:List Value):List Nat→Prop
 | []=>True
 | k :: ks=>rd t k=rd t0 k∧AllRd t t0 ks
@[simp] theorem AllRd_nil (t t0:List Value):AllRd t t0 []=True:=id rfl
@[simp] theorem AllRd_cons (t t0:List Value)(k:Nat)(ks:List Nat):AllRd t t0 (k :: ks)=(rd t k=rd t0 k∧AllRd t t0 ks):=id rfl
theorem Kept.all {ds:List Nat}{t0 t:List Value}(h:Kept ds t0 t):∀ (ks:List Nat),(ks.all fun k => !ds.elem k)=true→AllRd t t0 ks
 | [],_=>trivial
 | k :: ks, hk => by
  simp only[List.all_cons,Bool.and_eq_true,Bool.not_eq_true']at hk
  exact⟨h.2 k (by intro hm;have:=List.elem_iff.2 hm;rw[hk.1]at this;cases this),h.all ks hk.2⟩
def roundQ (ds:List Nat)(t0:List Value)(I:Nat→List Value→Heap→Prop)(m:Nat)(Q:QA):QA:=fun e s H=>match e with
 | .normal=>s.ds=[]∧∃ m',m'<m∧I m' s.t H
 | e=>Q e s H
section
variable (ds:List Nat) (t0:List Value) (I:Nat→List Value→Heap→Prop) (m:Nat) (Q:QA)
@[simp] theorem roundQ_normal (s:St)(H:Heap):roundQ ds t0 I m Q .normal s H=(s.ds=[]∧∃ m',m'<m∧I m' s.t H):=id rfl
@[simp] theorem roundQ_exit (i:Nat)(s:St)(H:Heap):roundQ ds t0 I m Q (.exit i) s H=Q (.exit i) s H:=id rfl
@[simp] theorem roundQ_goto (i:Nat)(s:St)(H:Heap):roundQ ds t0 I m Q (.goto i) s H=Q (.goto i) s H:=id rfl
@[simp] theorem roundQ_ret (s:St)(H:Heap):roundQ ds t0 I m Q .ret s H=Q .ret s H:=id rfl
@[simp] theorem roundQ_pan (v:Value)(s:St)(H:Heap):roundQ ds t0 I m Q (.pan v) s H=Q (.pan v) s H:=id rfl
end
theorem loop_wp {c:Code}{t0:List Value}{H0:Heap}{Q:QA}(I:Nat→List Value→Heap→Prop)(m0:Nat)(h0:I m0 t0 H0)
  (step:∀ m t H,Kept (dstsOf c) t0 t→I m t H→Ends ((run P E).code c ⟨Fr t [],[]⟩ H) (roundQ (dstsOf c) t0 I m Q)):Ends ((run P E).code (.loop c) ⟨t0,[]⟩ H0) Q:=by
 refine loop_ends (fun m t H=>Kept (dstsOf c) t0 t∧I m t H) ?_ m0 t0 H0 ⟨Kept.refl _ _,h0⟩
 rintro m t H ⟨hk,hI⟩
 obtain⟨e,s,H',h1,h2⟩:=step m t H hk hI
 rw[Fr_nil]at h1
 refine⟨e,s,H',h1,?_⟩
 cases e with
 | normal=>rw[roundQ_normal]at h2;obtain⟨h3,m',h4,h5⟩:=h2;exact .inl ⟨rfl,h3,m',h4,hk.trans (kept_run h1),h5⟩
 | _=>exact .inr ⟨(fun h=>by cases h),h2⟩
theorem Gives.and {r:Option (Out × Heap)}{Q Q':Out→Heap→Prop}(h:Gives r Q)(h':Gives r Q'):Gives r fun o H=>Q o H∧Q' o H:=by
 obtain⟨o,H,h1,h2⟩:=h
 obtain⟨o',H',h3,h4⟩:=h'
 rw[h1]at h3
 simp only[Option.some.injEq,Prod.mk.injEq]at h3
 obtain⟨rfl,rfl⟩:=h3
 exact⟨o,H,h1,h2,h4⟩
theorem Gives.val {r:Option (Out × Heap)}{v:Value}{Q:Heap→Prop}(h:Gives r fun o H=>o = .val v∧Q H):∃ H',r=some (.val v,H')∧Q H':=by
 obtain⟨o,H,h1,rfl,h2⟩:=h
 exact⟨H,h1,h2⟩
theorem Ends.after {r:ResA}{Q Q':QA}(h:Ends r Q)(k:∀ e s H,r=some (e,s,H)→Q e s H→Q' e s H):Ends r Q':=by
 obtain⟨e,s,H,h1,h2⟩:=h
 exact⟨e,s,H,h1,k e s H h1 h2⟩
end Go.Vm
namespace Go.Vm
open Go.RowKit
variable {P:Program}
def hookAt (f0:FuncId)(g:List Value→Heap→Option (Out × Heap))(E:Hooks):Hooks :=
 ⟨fun f=>match Nat.beq f f0 with | true=>true | false=>E.has f,fun f args H=>match Nat.beq f f0 with | true=>g args H | false=>E.run f args H⟩
theorem LR.two {L:Lay}{a b:Value}{args':List Value}(h:LR L [a,b] args'):∃ a' b',args'=[a',b']∧VR L a a'∧VR L b b':=by
 match args',h with
 | [a',b'],h=>exact⟨a',b',rfl,h.2 0 (by simp) (by simp),h.2 1 (by simp) (by simp)⟩
 | [],h=>exact absurd h.1 (by simp)
 | [_],h=>exact absurd h.1 (by simp)
 | _ :: _ :: _ :: _,h=>exact absurd h.1 (by simp)
section
variable {N:Th} {W0:World} {f:FuncId} {fn:Func}
end
end Go.Vm
namespace Go.Vm
variable {P:Program} {E:Hooks}
def bodyOf (fn:Func):Code:=match fn.body with | some c=>c | none => .skip
noncomputable def callB (P:Program)(E:Hooks)(fn:Func)(args:List Value)(H:Heap):Option (Out × Heap) :=
 bodyA P E (run P E) fn.results.toList ((run P E).code (bodyOf fn) ⟨Fr (Bs fn.ntmps args) [],[]⟩ H)
theorem call_B {f : FuncId} {fn : Func} (hf : P.funcs[f]? = some fn) (hb : fn.body.isSome = true) (hn : (fn.name == "runtime.NumGoroutine") = false) (hE : E.has f = false) (args : List Value) (H : Heap) :
  (run P E).call f args H=callB P E fn args H:=by
 unfold callB bodyOf
 cases hc:fn.body with
 | none=>rw[hc]at hb;cases hb
 | some c=>exact call_fn hf hc hn hE args H
end Go.Vm
namespace Go.Vm
@[simp] theorem Heap.set_set (H:Heap)(i:Nat)(o o':AObj):(H.set i o).set i o'=H.set i o':=by
 unfold Heap.set
 simp only[Tr.set_set]
theorem Heap.get_set_self (H:Heap){i:Nat}(o:AObj)(h:i<H.n):(H.set i o).get i=o:=by rw[Heap.get_set _ _ _ h,if_pos rfl]
end Go.Vm
namespace Go.Vm
open Go.RowKit
variable {P:Program} {E:Hooks}
theorem region_quiet {ops:Array Oper}(hq:quiet P ops.toList=true){id:Nat}{s:St}{H:Heap}{Q:QA}(h:Ends (onlyNormal (exList P (run P E).call ops.toList ops.toList s H)) Q):Ends ((run P E).code (.region id ops true) s H) Q:=by
 rw[code_draw id ops s H hq];exact h
theorem region_plan {ops:Array Oper}{pl:List (Option (Nat × Nat))}(hp:planOf P ops.toList=some pl){id:Nat}{s:St}{H:Heap}{Q:QA}
  (h:Ends (drawF P (run P E).call ops.toList pl H s.ds (exText P (run P E).call ops.toList ops.toList s.t H)) Q):Ends ((run P E).code (.region id ops true) s H) Q:=by
 rw[code_plan hp];exact h
theorem region_free {ops:Array Oper}(hp:planOf P ops.toList=none)(hla:lateAt ops.toList=none){ms:List Nat}(hm:preOf ops.toList=ms)(ho:freeOK ops.toList ms=true){k:Nat}(hk:needAll ops.toList=k){id:Nat}{s:St}{H:Heap}{Q:QA}
  (h:Ends (freeF ms s.ds (freeT P (run P E).call ops.toList ops.toList s.t H.n (H.room k) 0)) Q):Ends ((run P E).code (.region id ops true) s H) Q:=by
 obtain⟨e,s',H',h1,h2⟩:=h
 exact⟨e,s',H',code_free hp hla hm ho hk h1,h2⟩
theorem region_late {ops:Array Oper}(hp:planOf P ops.toList=none){q:LateQ}(hla:lateAt ops.toList=some q){pl:List (Option (Nat × Nat))}(hpl:planOf P (lateA ops.toList)=some pl){z:Value}(hz:zeroT P q.ty=some z)
  {id:Nat} {s:St} {H:Heap} {Q:QA} (h:Ends (lateF P (run P E).call (lateA ops.toList) pl q z H s.ds (exText P (run P E).call (lateA ops.toList) (lateA ops.toList) s.t (H.push .dead))) Q):Ends ((run P E).code (.region id ops true) s H) Q:=by
 rw[code_late hp hla hpl hz];exact h
theorem Gives.elim {r:Option (Out × Heap)}{Q:Out→Heap→Prop}(h:Gives r Q):∃ o H,r=some (o,H)∧Q o H:=h
section
variable {E:Hooks}
end
end Go.Vm
namespace Go.Vm
theorem gpe {H:Heap}{j:Nat}(o:AObj)(h:decide (j=H.n)=true):(H.push o).get j=o:=by
 have h:=of_decide_eq_true h;subst h;exact Heap.get_push_self _ _
theorem gpn {H:Heap}{j:Nat}(o:AObj)(h:¬j=H.n):(H.push o).get j=H.get j:=by rw[Heap.get_push,if_neg h]
theorem spe {H:Heap}{j:Nat}(o o':AObj)(h:decide (j=H.n)=true):(H.push o).set j o'=H.push o':=by
 have h:=of_decide_eq_true h;subst h;simp
theorem gse {H:Heap}{i j:Nat}(o:AObj)(h:decide (j=i)=true)(hi:decide (i<H.n)=true):(H.set i o).get j=o:=by
 have h:=of_decide_eq_true h;subst h;exact Heap.get_set_self _ _ (of_decide_eq_true hi)
theorem gsn {H:Heap}{i j:Nat}(o:AObj)(h:¬j=i):(H.set i o).get j=H.get j:=by
 unfold Heap.get
 show (match Nat.blt j H.n with | true=>(Tr.set (i+1) H.t i o).get j | false=>AObj.dead)=_
 rw[Tr.get_set o (i+1) H.t i j (Nat.lt_succ_self i),if_neg h]
 rfl
theorem ne_r0 {r n:Nat}(h:r<n):(r=n)=False:=eq_false (by omega)
theorem ne_l0 {r n:Nat}(h:r<n):(n=r)=False:=eq_false (by omega)
theorem le_s0 {r n:Nat}(h:r<n):(r≤n)=True:=eq_true (by omega)
theorem ne_r1 {r n:Nat}(h:r<n):(r=n+1)=False:=eq_false (by omega)
theorem ne_l1 {r n:Nat}(h:r<n):(n+1=r)=False:=eq_false (by omega)
theorem lt_s1 {r n:Nat}(h:r<n):(r<n+1)=True:=eq_true (by omega)
theorem le_s1 {r n:Nat}(h:r<n):(r≤n+1)=True:=eq_true (by omega)
theorem ne_r2 {r n:Nat}(h:r<n):(r=n+1+1)=False:=eq_false (by omega)
theorem ne_l2 {r n:Nat}(h:r<n):(n+1+1=r)=False:=eq_false (by omega)
theorem lt_s2 {r n:Nat}(h:r<n):(r<n+1+1)=True:=eq_true (by omega)
theorem le_s2 {r n:Nat}(h:r<n):(r≤n+1+1)=True:=eq_true (by omega)
theorem ne_r3 {r n:Nat}(h:r<n):(r=n+1+1+1)=False:=eq_false (by omega)
theorem ne_l3 {r n:Nat}(h:r<n):(n+1+1+1=r)=False:=eq_false (by omega)
theorem lt_s3 {r n:Nat}(h:r<n):(r<n+1+1+1)=True:=eq_true (by omega)
theorem le_s3 {r n:Nat}(h:r<n):(r≤n+1+1+1)=True:=eq_true (by omega)
theorem ne_r4 {r n:Nat}(h:r<n):(r=n+1+1+1+1)=False:=eq_false (by omega)
theorem ne_l4 {r n:Nat}(h:r<n):(n+1+1+1+1=r)=False:=eq_false (by omega)
theorem lt_s4 {r n:Nat}(h:r<n):(r<n+1+1+1+1)=True:=eq_true (by omega)
theorem le_s4 {r n:Nat}(h:r<n):(r≤n+1+1+1+1)=True:=eq_true (by omega)
theorem ne_r5 {r n:Nat}(h:r<n):(r=n+1+1+1+1+1)=False:=eq_false (by omega)
theorem ne_l5 {r n:Nat}(h:r<n):(n+1+1+1+1+1=r)=False:=eq_false (by omega)
theorem lt_s5 {r n:Nat}(h:r<n):(r<n+1+1+1+1+1)=True:=eq_true (by omega)
theorem le_s5 {r n:Nat}(h:r<n):(r≤n+1+1+1+1+1)=True:=eq_true (by omega)
theorem ne_r6 {r n:Nat}(h:r<n):(r=n+1+1+1+1+1+1)=False:=eq_false (by omega)
theorem ne_l6 {r n:Nat}(h:r<n):(n+1+1+1+1+1+1=r)=False:=eq_false (by omega)
theorem lt_s6 {r n:Nat}(h:r<n):(r<n+1+1+1+1+1+1)=True:=eq_true (by omega)
theorem le_s6 {r n:Nat}(h:r<n):(r≤n+1+1+1+1+1+1)=True:=eq_true (by omega)
theorem ne_r7 {r n:Nat}(h:r<n):(r=n+1+1+1+1+1+1+1)=False:=eq_false (by omega)
theorem ne_l7 {r n:Nat}(h:r<n):(n+1+1+1+1+1+1+1=r)=False:=eq_false (by omega)
theorem lt_s7 {r n:Nat}(h:r<n):(r<n+1+1+1+1+1+1+1)=True:=eq_true (by omega)
theorem le_s7 {r n:Nat}(h:r<n):(r≤n+1+1+1+1+1+1+1)=True:=eq_true (by omega)
theorem of_gives {r : Option (Out × Heap)} {o : Out} {Q : Heap → Prop} (h : Gives r fun o' H' => o' = o ∧ Q H') : ∃ H', r = some (o, H') ∧ Q H' := by
 obtain ⟨_, H', e, rfl, k⟩ := h
 exact ⟨H', e, k⟩
end Go.Vm
namespace Go.Vm
open Go.RowKit
variable {P:Program}
def iv (z:Int):Value := .int .i64 z
@[simp] theorem iv_eq (z:Int):iv z = .int .i64 z:=id rfl
structure IntT (P:Program)(t e:TypeId):Prop where
 elem:elemT P t=some e
 size:sizeT P e=some 1
 bytes:bytesT P e=some 8
 zero:zeroT P e=some (.int .i64 0)
 under:P.underlying t=some (.slice e)
def GL (H:Heap)(v:Value)(xs:List Int)(r:Option Nat):Prop :=
 (v = .slice none 0 0∧xs=[]∧r=none)∨∃ id off cs tl,r=some id∧v = .slice (some ⟨id,off,none⟩) xs.length xs.length∧H.get id = .row true tl 1 cs∧off+xs.length≤cs.length∧(cs.drop off).take xs.length=xs.map iv∧(tl=0∨tl=1∧off+xs.length=cs.length)
def Newer (H:Heap)(r r':Option Nat):Prop:=∀ i,r'=some i→r=some i∨H.n≤i
theorem Newer.refl (H:Heap)(r:Option Nat):Newer H r r:=fun _ h => .inl h
theorem Newer.new {H:Heap}{r:Option Nat}{i:Nat}(h:H.n≤i):Newer H r (some i):=fun j hj => .inr (by simp only[Option.some.injEq]at hj;omega)
theorem Newer.le {A B:Heap}{r r':Option Nat}(h:Newer B r r')(k:A.n≤B.n):Newer A r r':=fun i hi=>(h i hi).imp id (Nat.le_trans k)
theorem Newer.ne {A:Heap}{r r':Option Nat}(h:Newer A r r'){p:Nat}(hp:p<A.n)(hr:r≠some p):∀ i,r'=some i→¬i=p:=fun i hi e=>(h i hi).elim (fun k=>hr (by rw[k,e])) (fun k=>by omega)
theorem Newer.trans {A B:Heap}{r r' r'':Option Nat}(h:Newer A r r')(k:Newer B r' r'')(hn:A.n≤B.n):Newer A r r'':=fun i hi=>(k i hi).elim (fun e=>h i e) (fun e => .inr (Nat.le_trans hn e))
theorem GL.lt {H:Heap}{v:Value}{xs:List Int}{r:Option Nat}(h:GL H v xs r){i:Nat}(hi:r=some i):i<H.n:=by
 rcases h with⟨_,_,h0⟩ | ⟨id,off,cs,tl,h0,_,h2,_⟩
 · rw[h0]at hi;cases hi
 · rw[h0]at hi;cases hi;exact Heap.lt_of_get h2 (by simp)
theorem GL.same {X:Nat→Prop}{H H':Heap}{v:Value}{xs:List Int}{r:Option Nat}(h:GL H v xs r)(k:Same X H H')(hx:∀ i,r=some i→¬X i):GL H' v xs r:=by
 refine h.imp id ?_
 rintro⟨id,off,cs,tl,h0,h1,h2,h3⟩
 exact⟨id,off,cs,tl,h0,h1,k.at h2 (by simp) (hx id h0),h3⟩
theorem GL.nil (H:Heap):GL H (.slice none 0 0) [] none := .inl ⟨rfl,rfl,rfl⟩
def SL (H:Heap)(v:Value)(xs:List Int):Prop :=
 ∃ base cap,v = .slice base xs.length cap∧((base=none∧xs=[])∨∃ r off own tl es cs,base=some ⟨r,off,none⟩∧H.get r = .row own tl es cs∧off+xs.length≤cs.length∧(cs.drop off).take xs.length=xs.map iv)
theorem GL.sl {H:Heap}{v:Value}{xs:List Int}{r:Option Nat}(h:GL H v xs r):SL H v xs:=by
 rcases h with⟨rfl,rfl,_⟩ | ⟨r,off,cs,tl,_,rfl,h2,h3,h4,h5⟩
 · exact⟨none,0,rfl,.inl ⟨rfl,rfl⟩⟩
 · exact⟨_,_,rfl,.inr ⟨r,off,true,tl,1,cs,rfl,h2,h3,h4⟩⟩
theorem SL.same {H H':Heap}{v:Value}{xs:List Int}(h:SL H v xs)(k:∀ i o,H.get i=o→o ≠ .dead→H'.get i=o):SL H' v xs:=by
 obtain⟨base,cap,h1,h2⟩:=h
 refine⟨base,cap,h1,h2.imp id ?_⟩
 rintro⟨r,off,own,tl,es,cs,h3,h4,h5⟩
 exact⟨r,off,own,tl,es,cs,h3,k _ _ h4 (by simp),h5⟩
theorem Same.all {H H':Heap}(k:Same (fun _=>False) H H'):∀ i o,H.get i=o→o ≠ .dead→H'.get i=o:=fun i o h hd=>k.at h hd (fun h=>h)
theorem SL.slice {H:Heap}{v:Value}{xs:List Int}(h:SL H v xs):∃ b n c,v = .slice b n c:=by
 obtain⟨base,cap,rfl,_⟩:=h;exact⟨_,_,_,rfl⟩
theorem SL.len {H:Heap}{v:Value}{xs:List Int}(h:SL H v xs):lenA v=some xs.length:=by
 obtain⟨base,cap,rfl,_⟩:=h;rfl
theorem SL.cells {H:Heap}{v:Value}{xs:List Int}(h:SL H v xs):cellsOf H 1 xs.length v=some (xs.map iv):=by
 obtain⟨base,cap,rfl,⟨rfl,rfl⟩ | ⟨r,off,own,tl,es,cs,rfl,h2,h3,h4⟩⟩:=h
 · rfl
 · simp[h2,h3,h4]
theorem SL.cell {H:Heap}{xs:List Int}{r off n cap:Nat}(h:SL H (.slice (some ⟨r,off,none⟩) n cap) xs):n=xs.length∧∃ cs,rowCells (H.get r)=some cs∧off+xs.length≤cs.length∧∀ i,i<xs.length→cs[off+i]? = some (iv (xs.getD i 0)):=by
 obtain⟨base,cap',h0,h⟩:=h
 simp only[Value.slice.injEq]at h0
 obtain⟨rfl,rfl,rfl⟩:=h0
 rcases h with⟨h,_⟩ | ⟨r',off',own,tl,es,cs,h1,h2,h3,h4⟩
 · cases h
 · simp only[Option.some.injEq,Addr.mk.injEq,and_true]at h1
   obtain⟨rfl,rfl⟩:=h1
   refine⟨rfl,cs,by rw[h2];rfl,h3,fun i hi => ?_⟩
   have:=congrArg (·[i]?) h4
   simp only[List.getElem?_take,List.getElem?_drop,if_pos hi,List.getElem?_map]at this
   rw[this,List.getElem?_eq_getElem hi,List.getD_eq_getElem?_getD,List.getElem?_eq_getElem hi]
   rfl
theorem GL.cons {H:Heap}{v:Value}{x:Int}{xs:List Int}{r:Option Nat}(h:GL H v (x :: xs) r):∃ id off cs tl,r=some id∧v = .slice (some ⟨id,off,none⟩) (xs.length+1) (xs.length+1)∧H.get id = .row true tl 1 cs∧cs[off]? = some (iv x):=by
 rcases h with⟨_,h0,_⟩ | ⟨id,off,cs,tl,h0,h1,h2,h3,h4,_⟩
 · cases h0
 · refine⟨id,off,cs,tl,h0,h1,h2,?_⟩
   have:=congrArg (·[0]?) h4
   simpa using this
section
variable {t e:TypeId} (T:IntT P t e)
include T
end
end Go.Vm
namespace Go.Vm
open Go.RowKit
variable {P:Program} {E:Hooks}
theorem ends_cut {r:ResA}{k:St→Heap→ResA}{Q:QA}{hk:Held k}(J:List Value→Heap→Prop)(h1:Ends r fun e s H=>e = .normal∧s.ds=[]∧J s.t H)
  (h2:∀ t H,J t H→Ends (k ⟨Fr t [],[]⟩ H) Q):Ends r (bindQ k Q hk):=by
 obtain⟨e,⟨t,ds⟩,H,e1,rfl,e2,hJ⟩:=h1
 simp only at e2
 subst e2
 have:=h2 t H hJ
 rw[Fr_nil]at this
 exact⟨_,_,H,e1,this⟩
def cutQ (J:List Value→Heap→Prop)(Q:QA):QA:=fun e s H=>match e with
 | .normal=>s.ds=[]∧J s.t H
 | .ret=>Q .ret s H
 | _=>False
@[simp] theorem cutQ_normal (J:List Value→Heap→Prop)(Q:QA)(s:St)(H:Heap):cutQ J Q .normal s H=(s.ds=[]∧J s.t H):=id rfl
@[simp] theorem cutQ_ret (J:List Value→Heap→Prop)(Q:QA)(s:St)(H:Heap):cutQ J Q .ret s H=Q .ret s H:=id rfl
theorem ends_cut2 {r:ResA}{k:St→Heap→ResA}{Q:QA}{hk:Held k}(J:List Value→Heap→Prop)(h1:Ends r (cutQ J Q))(h2:∀ t H,J t H→Ends (k ⟨Fr t [],[]⟩ H) Q):Ends r (bindQ k Q hk):=by
 obtain⟨e,⟨t,ds⟩,H,e1,hJ⟩:=h1
 cases e with
 | normal =>
  rw[cutQ_normal]at hJ
  obtain⟨e2,hJ⟩:=hJ
  simp only at e2
  subst e2
  have:=h2 t H hJ
  rw[Fr_nil]at this
  exact⟨_,_,H,e1,this⟩
 | ret=>exact⟨_,_,H,e1,by rw[bindQ_ret];exact hJ⟩
 | _=>exact hJ.elim
theorem loop_mid {c:Code}{t0:List Value}{H0:Heap}{i:Nat}{k:St→Heap→ResA}{Q:QA}{hk:Held k}(J:List Value→Heap→Prop)(I:Nat→List Value→Heap→Prop)(m0:Nat)(h0:I m0 t0 H0)
  (step:∀ m t H,Kept (dstsOf c) t0 t→I m t H→Ends ((run P E).code c ⟨Fr t [],[]⟩ H) (roundQ (dstsOf c) t0 I m fun e s H=>e = .exit i∧s.ds=[]∧J s.t H))
  (after:∀ t H,Kept (dstsOf c) t0 t→J t H→Ends (k ⟨Fr t [],[]⟩ H) Q):Ends ((run P E).code (.loop c) ⟨t0,[]⟩ H0) (blockQ i (bindQ k Q hk)):=by
 refine loop_ends (fun m t H=>Kept (dstsOf c) t0 t∧I m t H) ?_ m0 t0 H0 ⟨Kept.refl _ _,h0⟩
 rintro m t H ⟨hk,hI⟩
 obtain⟨e,s,H',h1,h2⟩:=step m t H hk hI
 rw[Fr_nil]at h1
 refine⟨e,s,H',h1,?_⟩
 have key:(e = .exit i∧s.ds=[]∧J s.t H')→blockQ i (bindQ k Q ‹_›) e s H':=by
  rintro⟨rfl,h3,h4⟩
  obtain⟨t',ds⟩:=s
  simp only at h3
  subst h3
  rw[blockQ_exit,if_pos rfl,bindQ_normal]
  have:=after t' H' (hk.trans (kept_run h1)) h4
  rwa [Fr_nil]at this
 cases e with
 | normal=>rw[roundQ_normal]at h2;obtain⟨h3,m',h4,h5⟩:=h2;exact .inl ⟨rfl,h3,m',h4,hk.trans (kept_run h1),h5⟩
 | exit j=>rw[roundQ_exit]at h2;exact .inr ⟨(fun h=>by cases h),key h2⟩
 | goto j=>rw[roundQ_goto]at h2;exact absurd h2.1 (by simp)
 | ret=>rw[roundQ_ret]at h2;exact absurd h2.1 (by simp)
 | pan v=>rw[roundQ_pan]at h2;exact absurd h2.1 (by simp)
def midQ (i:Nat)(J:List Value→Heap→Prop)(Q:QA):QA:=fun e s H=>match e with
 | .exit j=>j=i∧s.ds=[]∧J s.t H
 | .ret=>Q .ret s H
 | _=>False
@[simp] theorem midQ_exit (i:Nat)(J:List Value→Heap→Prop)(Q:QA)(j:Nat)(s:St)(H:Heap):midQ i J Q (.exit j) s H=(j=i∧s.ds=[]∧J s.t H):=id rfl
@[simp] theorem midQ_ret (i:Nat)(J:List Value→Heap→Prop)(Q:QA)(s:St)(H:Heap):midQ i J Q .ret s H=Q .ret s H:=id rfl
theorem loop_mid2 {c:Code}{t0:List Value}{H0:Heap}{i:Nat}{k:St→Heap→ResA}{Q:QA}{hk:Held k}(J:List Value→Heap→Prop)(I:Nat→List Value→Heap→Prop)(m0:Nat)(h0:I m0 t0 H0)
  (step:∀ m t H,Kept (dstsOf c) t0 t→I m t H→Ends ((run P E).code c ⟨Fr t [],[]⟩ H) (roundQ (dstsOf c) t0 I m (midQ i J Q)))
  (after:∀ t H,Kept (dstsOf c) t0 t→J t H→Ends (k ⟨Fr t [],[]⟩ H) Q):Ends ((run P E).code (.loop c) ⟨t0,[]⟩ H0) (blockQ i (bindQ k Q hk)):=by
 refine loop_ends (fun m t H=>Kept (dstsOf c) t0 t∧I m t H) ?_ m0 t0 H0 ⟨Kept.refl _ _,h0⟩
 rintro m t H ⟨hk,hI⟩
 obtain⟨e,s,H',h1,h2⟩:=step m t H hk hI
 rw[Fr_nil]at h1
 refine⟨e,s,H',h1,?_⟩
 cases e with
 | normal=>rw[roundQ_normal]at h2;obtain⟨h3,m',h4,h5⟩:=h2;exact .inl ⟨rfl,h3,m',h4,hk.trans (kept_run h1),h5⟩
 | exit j =>
  rw[roundQ_exit,midQ_exit]at h2
  refine .inr ⟨(fun h=>by cases h),?_⟩
  obtain⟨rfl,h3,h4⟩:=h2
  obtain⟨t',ds⟩:=s
  simp only at h3
  subst h3
  rw[blockQ_exit,if_pos rfl,bindQ_normal]
  have:=after t' H' (hk.trans (kept_run h1)) h4
  rwa [Fr_nil]at this
 | goto j=>rw[roundQ_goto]at h2;exact h2.elim
 | ret=>rw[roundQ_ret,midQ_ret]at h2;exact .inr ⟨(fun h=>by cases h),by rw[blockQ_ret,bindQ_ret];exact h2⟩
 | pan v=>rw[roundQ_pan]at h2;exact h2.elim
end Go.Vm
namespace Go.Vm
open Go
theorem builtin_max {P:Program}(ts:List TypeId)(a b:Int)(H:Heap):exBuiltin P .max ts [.int .i64 a,.int .i64 b] H=some (.val (.int .i64 (max a b)),H):=by
 have e:pureRun P (Builtin.max_ ts.toArray 0 #[Value.int .i64 a,Value.int .i64 b])=some (.int .i64 (max a b)):=by
  show some (Value.int .i64 (if b > a then b else a))=_
  have:(if b > a then b else a)=max a b:=by split<;>omega
  rw[this]
 show (match groundL [Value.int .i64 a,Value.int .i64 b]with | true=>val1 (ifGround (pureRun P (Builtin.max_ ts.toArray 0 #[Value.int .i64 a,Value.int .i64 b]))) H | false=>none)=_
 rw[e]
 rfl
end Go.Vm
