/- A predicate-transformer reading of the model's code ('codeW'), proved sound against 'Code.wp': what a function's code comes to is reckoned by the kernel; conditions: none · What the types of the translation lead one to await of a cell or a result: a table; nothing is proved of it · The printed readings of some functions: each function's code reckoned by the kernel to its predicate transformer -/
import Derived.Calls
import Derived.Tactics
import Derived.Scope
import Derived.Laws.World
import Derived.OrdersHeld
import Derived.KernelRfl
import Derived.Test.YtklnlnjgaadjbaaProg
set_option linter.unusedSimpArgs false
set_option linter.unusedVariables false
namespace Go.Dn
abbrev Fr := Nat → Value
def up (σ : Fr) (d : Nat) (v : Value) : Fr := fun t => bif Nat.beq t d then v else σ t
def putO (σ : Fr) : Option Tmp → Value → Fr
 | some d, v => up σ d v
 | none, _ => σ
def ev (n : Nat) (σ : Fr) : Operand → Value
 | .tmp t => bif Nat.blt t n then σ t else undef
 | .const v => v
 | .global g => .pointer (some ⟨g, 0, none⟩)
 | .func f => .func (.func f) #[] #[]
def act (ds : List Deferred) (n : Nat) (σ : Fr) : Act := { tmps := Array.ofFn (n := n) fun i => σ i.val, defers := ds }
variable {ds : List Deferred}
def argsF (l : List Value) : Fr := fun t => l.getD t undef
theorem nbeq_false {a b : Nat} (h : ¬ a = b) : Nat.beq a b = false := by
 cases hb : Nat.beq a b with
 | false => rfl
 | true => exact absurd (Nat.eq_of_beq_eq_true hb) h
theorem up_self {σ : Fr} {d : Nat} {v : Value} (h : σ d = v) : up σ d v = σ := by
 funext t
 unfold up
 by_cases e : t = d
 ·subst e; simp [h]
 ·have : Nat.beq t d = false := nbeq_false e
  simp [this]
theorem act_get (n : Nat) (σ : Fr) (t : Nat) : (act ds n σ).tmps[t]? = if t < n then some (σ t) else none := by
 unfold act
 by_cases h : t < n
 ·simp [h]
 ·simp [h]
theorem act_eval (n : Nat) (σ : Fr) : (act ds n σ).eval = ev n σ := by
 funext x
 cases x with
 | tmp t =>
  show (act ds n σ).tmps.getD t undef = _
  rw [Array.getD_eq_getD_getElem?, act_get]
  simp only [ev]
  by_cases h : t < n
  ·have : Nat.blt t n = true := by simpa [Nat.blt_eq] using h
   simp [h, this]
  ·have : Nat.blt t n = false := by
    cases hb : Nat.blt t n with
    | false => rfl
    | true => exact absurd (Nat.blt_eq.mp hb) h
   simp [h, this]
 | const v => rfl
 | global g => rfl
 | func f => rfl
theorem act_put (n : Nat) (σ : Fr) (d : Option Tmp) (v : Value) : (act ds n σ).put d v = act ds n (putO σ d v) := by
 cases d with
 | none => rfl
 | some d =>
  show Act.mk ((Array.ofFn (n := n) fun i => σ i.val).setIfInBounds d v) ds = Act.mk (Array.ofFn (n := n) fun i => up σ d v i.val) ds
  congr 1
  apply Array.ext
  ·simp
  ·intro i h1 h2
   simp only [Array.size_setIfInBounds, Array.size_ofFn] at h1
   rw [Array.getElem_setIfInBounds (by simpa using h1)]
   simp only [Array.getElem_ofFn, up]
   by_cases e : d = i
   ·subst e; simp
   ·have : Nat.beq i d = false := nbeq_false (fun h => e h.symm)
    simp [e, this]
def sel (b : Bool) (A B : Prop) : Prop := match b with | true => A | false => B
def req (b : Bool) (A : Prop) : Prop := match b with | true => A | false => False
def optB {α : Type} (x : Option α) (f : α → Prop) : Prop := match x with | some a => f a | none => False
theorem sel_t {b : Bool} {A B : Prop} (h : b = true) (h1 : A) : sel b A B := by subst h; exact h1
theorem sel_f {b : Bool} {A B : Prop} (h : b = false) (h1 : B) : sel b A B := by subst h; exact h1
theorem req_intro {b : Bool} {A : Prop} (h : b = true) (h1 : A) : req b A := by subst h; exact h1
theorem req_elim {b : Bool} {A : Prop} (h : req b A) : b = true ∧ A := by
 cases b
 ·exact h.elim
 ·exact ⟨rfl, h⟩
theorem optB_some {α : Type} {x : Option α} {f : α → Prop} {a : α} (h : x = some a) (h1 : f a) : optB x f := by subst h; exact h1
theorem optB_elim {α : Type} {x : Option α} {f : α → Prop} (h : optB x f) : ∃ a, x = some a ∧ f a := by
 cases x with
 | none => exact h.elim
 | some a => exact ⟨a, rfl, h⟩
inductive Sh where
 | int (k : IntKind) | bool | str | ptr | slice | map | flt (k : FloatKind) | cpx (k : FloatKind) | any | arr
inductive Sh1 where
 | sc (s : Sh) | agg (l : List Sh)
inductive RetH where
 | one (s : Sh1) | tup (l : List Sh1) | nxt
def bindSh : Sh → (Value → Prop) → Prop
 | .int k, K => ∃ x : Int, K (.int k x)
 | .bool, K => ∃ x : Bool, K (.bool x)
 | .str, K => ∃ x : ByteArray, K (.string x)
 | .ptr, K => ∃ x : Option Addr, K (.pointer x)
 | .slice, K => ∃ (A : Option Addr) (n c : Nat), K (.slice A n c)
 | .map, K => ∃ x : Option Nat, K (.map x)
 | .flt k, K => ∃ x : Nat, K (.float k x)
 | .cpx k, K => ∃ (x y : Nat), K (.complex k x y)
 | .any, K => ∃ v : Value, K v
 | .arr, K => ∃ cs : Array Value, K (.agg cs)
theorem bindSh_elim {s : Sh} {K : Value → Prop} (h : bindSh s K) : ∃ v, K v := by
 cases s <;> simp only [bindSh] at h
 case slice => obtain ⟨A, n, c, h⟩ := h; exact ⟨_, h⟩
 case cpx => obtain ⟨x, y, h⟩ := h; exact ⟨_, h⟩
 all_goals (obtain ⟨x, h⟩ := h; exact ⟨_, h⟩)
def bindShs : List Sh → (List Value → Prop) → Prop
 | [], K => K []
 | s :: l, K => bindSh s fun v => bindShs l fun vs => K (v :: vs)
theorem bindShs_elim : ∀ {l : List Sh} {K : List Value → Prop}, bindShs l K → ∃ vs, K vs
 | [], _, h => ⟨[], h⟩
 | _ :: _, _, h => by
  obtain ⟨v, h⟩ := bindSh_elim h
  obtain ⟨vs, h⟩ := bindShs_elim h
  exact ⟨v :: vs, h⟩
def bindSh1 : Sh1 → (Value → Prop) → Prop
 | .sc s, K => bindSh s K
 | .agg l, K => bindShs l fun vs => K (.agg ⟨vs⟩)
theorem bindSh1_elim {s : Sh1} {K : Value → Prop} (h : bindSh1 s K) : ∃ v, K v := by
 cases s with
 | sc s => exact bindSh_elim h
 | agg l => obtain ⟨vs, h⟩ := bindShs_elim h; exact ⟨_, h⟩
def bindSh1s : List Sh1 → (List Value → Prop) → Prop
 | [], K => K []
 | s :: l, K => bindSh1 s fun v => bindSh1s l fun vs => K (v :: vs)
theorem bindSh1s_elim : ∀ {l : List Sh1} {K : List Value → Prop}, bindSh1s l K → ∃ vs, K vs
 | [], _, h => ⟨[], h⟩
 | _ :: _, _, h => by
  obtain ⟨v, h⟩ := bindSh1_elim h
  obtain ⟨vs, h⟩ := bindSh1s_elim h
  exact ⟨v :: vs, h⟩
def bindRet : RetH → (Value → Prop) → Prop
 | .one s, K => bindSh1 s K
 | .tup l, K => bindSh1s l fun vs => K (.tuple ⟨vs⟩)
 | .nxt, K => ∃ (b : Bool) (r : List Value), K (.tuple ⟨.bool b :: r⟩)
theorem bindRet_elim {s : RetH} {K : Value → Prop} (h : bindRet s K) : ∃ v, K v := by
 cases s with
 | one s => exact bindSh1_elim h
 | tup l => obtain ⟨vs, h⟩ := bindSh1s_elim h; exact ⟨_, h⟩
 | nxt => obtain ⟨b, r, h⟩ := h; exact ⟨_, h⟩
def RetH.loads : RetH → List Sh
 | .one (.sc s) => [s]
 | .one (.agg l) => l
 | .tup _ => []
 | .nxt => []
def Wr (w : World) (a : Addr) : Prop := (∃ v0, w.cell? a = some v0) ∧ w.frozen? a = false
def sc (v : Value) (X : Prop) : Prop := match v with | .agg _ => False | .tuple _ => False | _ => X
def notCells : Obj → Prop := fun o => match o with | .cells .. => False | _ => True
def wpS (P : Program) {α : Type} : Sem α → List Sh → (α → World → Prop) → World → Prop
 | .pure a, _, K, w => K a w
 | .load _ a k, hs, K, w => bindSh (hs.headD .any) fun v => w.cell? a = some v ∧ wpS P (k v) hs.tail K w
 | .store _ a v k, hs, K, w => Wr w a ∧ sc v (wpS P k hs K (w.setCell a v))
 | .new o k, hs, K, w => wpS P (k w.heap.size) hs K (w.alloc o)
 | .shape r k, hs, K, w => wpS P (k (w.shape? r)) hs K w
 | .freeze a n k, hs, K, w => wpS P k hs K (w.freeze a n)
 | .frozen a k, hs, K, w => wpS P (k (w.frozen? a)) hs K w
 | .getObj r k, hs, K, w => ∃ o, w.heap[r]? = some o ∧ notCells o ∧ wpS P (k o) hs K w
 | .setObj r o k, hs, K, w => (∃ o', w.heap[r]? = some o' ∧ notCells o') ∧ wpS P k hs K { w with heap := w.heap.setIfInBounds r o }
 | .choose q k, hs, K, w => match q.forced with
  | true => wpS P (k 0) hs K w
  | false => ∀ t, wpS P (k (q.cut t)) hs K w.drew
 | .sys _ _, _, _, _ => False
 | .program k, hs, K, w => wpS P (k P) hs K w
 | .mark _ k, hs, K, w => wpS P k hs K w
 | .halt _, _, _, _ => False
theorem wpS_run (P : Program) {α : Type} (s : Sem α) : ∀ (hs : List Sh) (K : α → World → Prop) (w : World), wpS P s hs K w →
  ∃ a w', s.run P w = .ok a w' ∧ K a w' := by
 induction s with
 | pure a => intro hs K w h; exact ⟨a, w, rfl, h⟩
 | load m a k ih =>
  intro hs K w h
  obtain ⟨v, hc, h⟩ := bindSh_elim h
  obtain ⟨x, w', hr, hk⟩ := ih v _ _ _ h
  exact ⟨x, w', by simp only [Sem.run, hc]; exact hr, hk⟩
 | store m a v k ih =>
  intro hs K w h
  obtain ⟨⟨⟨v0, hc⟩, hf⟩, h⟩ := h
  cases v <;> simp only [sc] at h
  all_goals
   obtain ⟨x, w', hr, hk⟩ := ih _ _ _ h
   exact ⟨x, w', by simp only [Sem.run, hc, hf, Bool.false_eq_true, if_false]; exact hr, hk⟩
 | new o k ih => intro hs K w h; exact ih _ _ _ _ h
 | shape r k ih => intro hs K w h; exact ih _ _ _ _ h
 | freeze a n k ih => intro hs K w h; exact ih _ _ _ h
 | frozen a k ih => intro hs K w h; exact ih _ _ _ _ h
 | getObj r k ih =>
  intro hs K w h
  obtain ⟨o, ho, hn, h⟩ := h
  obtain ⟨x, w', hr, hk⟩ := ih o _ _ _ h
  refine ⟨x, w', ?_, hk⟩
  cases o <;> simp only [notCells] at hn <;> simp only [Sem.run, ho] <;> exact hr
 | setObj r o k ih =>
  intro hs K w h
  obtain ⟨⟨o', ho, hn⟩, h⟩ := h
  obtain ⟨x, w', hr, hk⟩ := ih _ _ _ h
  refine ⟨x, w', ?_, hk⟩
  cases o' <;> simp only [notCells] at hn <;> simp only [Sem.run, ho] <;> exact hr
 | choose q k ih =>
  intro hs K w h
  unfold wpS at h
  cases hq : q.forced with
  | true =>
   simp only [hq] at h
   obtain ⟨x, w', hr, hk⟩ := ih _ _ _ _ h
   exact ⟨x, w', by simp only [Sem.run, hq, if_true]; exact hr, hk⟩
  | false =>
   simp only [hq] at h
   obtain ⟨x, w', hr, hk⟩ := ih _ _ _ _ (h (w.tape w.drawn q))
   exact ⟨x, w', by simp only [Sem.run, hq, Bool.false_eq_true, if_false]; exact hr, hk⟩
 | sys c k ih => intro hs K w h; exact h.elim
 | program k ih => intro hs K w h; exact ih _ _ _ _ h
 | mark m k ih => intro hs K w h; exact ih _ _ _ h
 | halt x => intro hs K w h; exact h.elim
def Runs (P : Program) {α : Type} (s : Sem α) (w : World) (K : α → World → Prop) : Prop := ∃ a w', s.run P w = .ok a w' ∧ K a w'
abbrev Hint := TypeId → RetH
def retOf (hT : Hint) (op : Op) (ty : TypeId) (dst : Option Tmp) : RetH := match op with
 | .range _ _ => .one (.sc .ptr)
 | .next _ false => .nxt
 | .entry _ => hT (1000000 + dst.getD 0)
 | _ => hT ty
def opK (P : Program) (hT : Hint) (o : Oper) (σ : Fr) (K : Fr → World → Prop) : Next → World → Prop
 | .value v, w => K (putO σ o.dst v) w
 | .skip, w => K (putO σ o.dst undef) w
 | .enter f args, w => Calls P f args w fun e w' => bindRet (hT o.type) fun v => e = .returned v ∧ K (putO σ o.dst v) w'
 | _, _ => False
theorem opK_sound {P : Program} {hT : Hint} {n : Nat} {o : Oper} {σ : Fr} {K : Fr → World → Prop} {next : Act → World → Prop} {Q : Exit → Act → World → Prop}
  {w : World} {x : Next} {w' : World} (hK : ∀ σ' w', K σ' w' → next (act ds n σ') w') (hr : (execOp (ev n σ) o).run P w = .ok x w') (h : opK P hT o σ K x w') :
  o.wp P (act ds n σ) w next Q := by
 unfold Oper.wp
 rw [act_eval, hr]
 cases x <;> simp only [opK] at h
 case value v => simp only [Oper.upon]; rw [act_put]; exact hK _ _ h
 case skip => simp only [Oper.upon]; rw [act_put]; exact hK _ _ h
 case enter f args =>
  simp only [Oper.upon]
  refine h.mono ?_
  intro e w'' he
  obtain ⟨v, rfl, hk⟩ := bindRet_elim he
  show next ((act ds n σ).put o.dst v) w''
  rw [act_put]; exact hK _ _ hk
theorem run_bind (P : Program) {α β : Type} (s : Sem α) (f : α → Sem β) : ∀ w, (s >>= f).run P w = match s.run P w with
  | .ok a w' => (f a).run P w'
  | .halt h w' => .halt h w' := by
 show ∀ w, (s.bind f).run P w = _
 induction s with
 | pure a => intro w; rfl
 | load m a k ih =>
  intro w
  simp only [Sem.bind, Sem.run]
  split
  ·exact ih _ _
  ·split
   ·exact ih _ _
   ·rfl
 | store m a v k ih =>
  intro w
  cases v <;> simp only [Sem.bind, Sem.run]
  all_goals
   split
   ·split
    ·rfl
    ·exact ih _
   ·split
    ·exact ih _
    ·rfl
 | new o k ih => intro w; exact ih _ _
 | shape r k ih => intro w; exact ih _ _
 | freeze a n k ih => intro w; exact ih _
 | frozen a k ih => intro w; exact ih _ _
 | getObj r k ih =>
  intro w
  simp only [Sem.bind, Sem.run]
  split
  ·rfl
  ·exact ih _ _
  ·rfl
 | setObj r o k ih =>
  intro w
  simp only [Sem.bind, Sem.run]
  split
  ·rfl
  ·exact ih _
  ·rfl
 | choose q k ih =>
  intro w
  simp only [Sem.bind, Sem.run]
  split
  ·exact ih _ _
  ·exact ih _ _
 | sys c k ih => intro w; exact ih _ _
 | program k ih => intro w; exact ih _ _
 | mark m k ih => intro w; exact ih _
 | halt x => intro w; rfl
def Gives (P : Program) (s : Sem Value) (v : Value) : Prop := ∀ w, s.run P w = .ok v w
theorem Gives.next {P : Program} {s : Sem Value} {v : Value} (h : Gives P s v) (w : World) :
  (do pure (Next.value (← s)) : Sem Next).run P w = .ok (.value v) w := by
 rw [run_bind, h w]; rfl
def nilW (v : Value) (K : Value → Prop) : Prop := match v with
 | .pointer p => optB p fun a => K (.pointer (some a))
 | .func (.func f) x y => K (.func (.func f) x y)
 | .iface t v => K (.iface t v)
 | _ => False
def pickV (t : Bool) (a b : Value) : Value := match a, b with
 | .int k x, .int k' y => if k = k' then .int k (bif t then x else y) else (bif t then a else b)
 | .bool x, .bool y => .bool (bif t then x else y)
 | .string x, .string y => .string (bif t then x else y)
 | _, _ => bif t then a else b
theorem pickV_eq (t : Bool) (a b : Value) : pickV t a b = if t then a else b := by
 cases t <;> (unfold pickV; split <;> (try split) <;> simp_all)
def slA (A : Option Addr) (l m sz : Nat) : Option Addr := if m = l then A else A.map (·.add (l * sz))
def slB (a : Addr) (l m sz : Nat) : Addr := if m = l then a else a.add (l * sz)
def bnd (v : Value) (y : Nat) (K : Nat → Prop) : Prop := match v with
 | .int _ i => req (decide (0 ≤ i ∧ i ≤ (y : Int))) (K i.toNat)
 | _ => False
def bnds (len cap : Nat) (lo hi mx : Option Value) (K : Nat → Nat → Nat → Prop) : Prop := match mx with
 | some v => bnd v cap fun m => match hi with
  | some v => bnd v m fun h => match lo with
   | some v => bnd v h fun l => K l h m
   | none => K 0 h m
  | none => False
 | none => match hi with
  | some v => bnd v cap fun h => match lo with
   | some v => bnd v h fun l => K l h cap
   | none => K 0 h cap
  | none => match lo with
   | some v => bnd v len fun l => K l len cap
   | none => K 0 len cap
def szOf (P : Program) (t : TypeId) (K : Nat → Prop) : Prop := match P.info? t with | some i => K i.size | none => False
def flatT (P : Program) (t : TypeId) : Bool := match P.underlying t with
 | some (.struct fs) => fs.toList.all fun f => !(f.name == "_") && (match P.underlying f.type with | some (.int _) => true | some .bool => true | some .string => true | _ => false)
 | some (.array n e) => Nat.ble n 64 && (match P.underlying e with | some (.int _) => true | some .bool => true | some .string => true | _ => false)
 | _ => false
def isSp (P : Program) : Op → Bool
 | .nilCheck _ | .pick _ _ _ | .indexAddr .. | .index .. | .slice .. | .sliceToArrayPointer .. => true
 | .binOp .quo .. | .binOp .rem .. => true
 | .binOp .shl _ _ (.const _) _ | .binOp .shr _ _ (.const _) _ => false
 | .binOp .shl .. | .binOp .shr .. => true
 | .binOp .eql _ _ (.const (.pointer none)) _ | .binOp .neq _ _ (.const (.pointer none)) _ => true
 | .binOp .eql _ _ (.const (.slice none 0 0)) _ | .binOp .neq _ _ (.const (.slice none 0 0)) _ => true
 | .binOp .eql _ _ (.const (.map none)) _ | .binOp .neq _ _ (.const (.map none)) _ => true
 | .binOp .eql t _ _ _ => flatT P t
 | .binOp .neq t _ _ _ => flatT P t
 | _ => false
def idxAddrW (P : Program) (t : TypeId) (x ix : Value) (K : Value → Prop) : Prop := match ix with
 | .int _ i => match P.underlying t, x with
  | some (.slice e), .slice A len _ => szOf P e fun z => optB A fun a => req (decide (0 ≤ i ∧ i < (len : Int))) (K (.pointer (some (a.add (i.toNat * z)))))
  | some (.array len e), .pointer (some a) => szOf P e fun z => req (decide (0 ≤ i ∧ i < (len : Int))) (K (.pointer (some (a.add (i.toNat * z)))))
  | _, _ => False
 | _ => False
def idxW (P : Program) (t : TypeId) (x ix : Value) (K : Value → Prop) : Prop := match ix with
 | .int _ i => match P.underlying t, x with
  | some .string, .string s => req (decide (0 ≤ i ∧ i < (s.size : Int))) (K (.int .u8 (s.get! i.toNat).toNat))
  | some (.array len e), .agg cs => match P.underlying e, P.info? e with
   | some (.struct _), _ => False
   | some (.array _ _), _ => False
   | some (.int k), some inf => req (inf.size == 1 && decide (0 ≤ i ∧ i < (len : Int))) (optB (cs[i.toNat]?) fun v => match v with | .int k' x => req (decide (k' = k)) (K (.int k x)) | _ => False)
   | some _, some inf => req (inf.size == 1 && decide (0 ≤ i ∧ i < (len : Int))) (optB (cs[i.toNat]?) K)
   | _, _ => False
  | _, _ => False
 | _ => False
def sliceW (P : Program) (t : TypeId) (x : Value) (lo hi mx : Option Value) (K : Value → Prop) : Prop := match P.underlying t, x with
 | some (.slice e), .slice A len cap => szOf P e fun z => bnds len cap lo hi mx fun l h m => K (.slice (slA A l m z) (h - l) (m - l))
 | some .string, .string s => match mx with
  | none => bnds s.size s.size lo hi none fun l h _ => K (.string (s.extract l h))
  | some _ => False
 | some (.array n e), .pointer (some a) => szOf P e fun z => bnds n n lo hi mx fun l h m => K (.slice (some (slB a l m z)) (h - l) (m - l))
 | _, _ => False
def divW (op : BinOp) (x y : Value) (K : Value → Prop) : Prop := match x, y with
 | .int k a, .int k' b => match op with
  | .quo => req (decide (k = k') && !decide (b = 0)) (K (.int k (k.wrap (a.tdiv b))))
  | .rem => req (decide (k = k') && !decide (b = 0)) (K (.int k (a.tmod b)))
  | _ => False
 | _, _ => False
def shW (op : BinOp) (x y : Value) (K : Value → Prop) : Prop := match x, y with
 | .int k a, .int _ b => match op with
  | .shl => req (!decide (b < 0)) (K (.int k (k.wrap (a * 2 ^ (min b.toNat k.bits)))))
  | .shr => req (!decide (b < 0)) (K (.int k (a.fdiv (2 ^ (min b.toNat k.bits)))))
  | _ => False
 | _, _ => False
def arrPtrW (P : Program) (arr : TypeId) (x : Value) (K : Value → Prop) : Prop := match P.underlying arr, x with
 | some (.array n _), .slice A len _ => req (decide (n ≤ len)) (optB A fun a => K (.pointer (some a)))
 | _, _ => False
def kindOk (P : Program) (t : TypeId) (v : Value) : Bool := match P.underlying t, v with
 | some (.int _), .int _ _ => true
 | some .bool, .bool _ => true
 | some .string, .string _ => true
 | _, _ => false
def eqCell (v u : Value) : Option Bool := match v, u with
 | .int k a, .int k' b => (match decide (k = k') with | true => some (a == b) | false => none)
 | .bool a, .bool b => some (a == b)
 | .string a, .string b => some (a == b)
 | _, _ => none
def eqFs (P : Program) (xs ys : Array Value) : List Field → Option Bool
 | [] => some true
 | f :: r => match f.name == "_" with
  | true => none
  | false => match xs[f.offset]?, ys[f.offset]? with
   | some a, some b => match kindOk P f.type a with
    | true => match eqCell a b, eqFs P xs ys r with
     | some c, some d => some (c && d)
     | _, _ => none
    | false => none
   | _, _ => none
def eqArr (P : Program) (e : TypeId) (xs ys : Array Value) : Nat → Nat → Option Bool
 | 0, _ => some true
 | k + 1, i => match xs[i]?, ys[i]? with
  | some a, some b => match kindOk P e a with
   | true => match eqCell a b, eqArr P e xs ys k (i + 1) with
    | some c, some d => some (c && d)
    | _, _ => none
   | false => none
  | _, _ => none
def eqAgg (P : Program) (t : TypeId) (v u : Value) : Option Bool := match P.underlying t, v, u with
 | some (.struct fs), .agg xs, .agg ys => match P.stoodInHeld t, P.eqGuardType P.depth t with
  | false, false => eqFs P xs ys fs.toList
  | _, _ => none
 | some (.array n e), .agg xs, .agg ys => match P.eqGuardType P.depth t, P.info? e with
  | false, some i => match Nat.beq i.size 1 with
   | true => eqArr P e xs ys n 0
   | false => none
  | _, _ => none
 | _, _, _ => none
def spW (P : Program) (n : Nat) (σ : Fr) (op : Op) (K : Value → Prop) : Prop := match op with
 | .nilCheck x => nilW (ev n σ x) K
 | .pick c a b => match ev n σ c with | .bool t => K (pickV t (ev n σ a) (ev n σ b)) | _ => False
 | .indexAddr t x ix => idxAddrW P t (ev n σ x) (ev n σ ix) K
 | .index t x ix => idxW P t (ev n σ x) (ev n σ ix) K
 | .slice t x lo hi mx => sliceW P t (ev n σ x) (lo.map (ev n σ)) (hi.map (ev n σ)) (mx.map (ev n σ)) K
 | .sliceToArrayPointer arr x => arrPtrW P arr (ev n σ x) K
 | .binOp .quo _ x y _ => divW .quo (ev n σ x) (ev n σ y) K
 | .binOp .rem _ x y _ => divW .rem (ev n σ x) (ev n σ y) K
 | .binOp .shl _ x y _ => shW .shl (ev n σ x) (ev n σ y) K
 | .binOp .shr _ x y _ => shW .shr (ev n σ x) (ev n σ y) K
 | .binOp .eql t x (.const (.pointer none)) _ => match P.underlying t, ev n σ x with | some (.pointer _), .pointer p => K (.bool p.isNone) | _, _ => False
 | .binOp .neq t x (.const (.pointer none)) _ => match P.underlying t, ev n σ x with | some (.pointer _), .pointer p => K (.bool !p.isNone) | _, _ => False
 | .binOp .eql t x (.const (.slice none 0 0)) _ => match P.underlying t, ev n σ x with | some (.slice _), .slice A _ _ => K (.bool A.isNone) | _, _ => False
 | .binOp .neq t x (.const (.slice none 0 0)) _ => match P.underlying t, ev n σ x with | some (.slice _), .slice A _ _ => K (.bool !A.isNone) | _, _ => False
 | .binOp .eql t x (.const (.map none)) _ => match P.underlying t, ev n σ x with | some (.map _ _), .map A => K (.bool A.isNone) | _, _ => False
 | .binOp .neq t x (.const (.map none)) _ => match P.underlying t, ev n σ x with | some (.map _ _), .map A => K (.bool !A.isNone) | _, _ => False
 | .binOp .eql t x y _ => match eqAgg P t (ev n σ x) (ev n σ y) with | some b => K (.bool b) | none => False
 | .binOp .neq t x y _ => match eqAgg P t (ev n σ x) (ev n σ y) with | some b => K (.bool !b) | none => False
 | _ => False
theorem underlying_gives {P : Program} {t : TypeId} {d : TypeDesc} (h : P.underlying t = some d) (w : World) : (underlying t).run P w = .ok d w := by
 unfold underlying program
 rw [run_bind]; simp only [Sem.run, h]; rfl
theorem sizeOf_gives {P : Program} {t : TypeId} {i : TypeInfo} (h : P.info? t = some i) (w : World) : (sizeOf t).run P w = .ok i.size w := by
 unfold sizeOf typeInfo program
 rw [run_bind, run_bind]; simp only [Sem.run, h]; rfl
theorem goes {P : Program} {α β : Type} {s : Sem α} {f : α → Sem β} {a : α} {w w' : World} (h : s.run P w = .ok a w') : (s >>= f).run P w = (f a).run P w' := by
 rw [run_bind, h]
theorem nilW_sound {P : Program} {v : Value} {K : Value → Prop} (h : nilW v K) : ∃ v', (∀ w, Sem.run P (match v with
  | .pointer none | .nilIface | .nilFunc => (runtimePanic .nilDeref : Sem Next)
  | .func (.method name) first captured =>
   match (first[0]? : Option Value) with
   | some .nilIface => runtimePanic .nilDeref
   | some (.iface t w) => do
    if (← nilAhead ((← program).types.size + Made.depth) t w name) != some false then
     unsupported (.noEntry "op/nilCheck.the method's receiver behind this interface value is a nil pointer, or cannot be seen to be none, and the arguments act or may panic (ledger 612)")
    pure (.value (.func (.method name) first captured))
   | _ => pure (.value (.func (.method name) first captured))
  | x => pure (.value x)) w = .ok (.value v') w) ∧ K v' := by
 cases v <;> simp only [nilW] at h
 case pointer p =>
  obtain ⟨a, rfl, h⟩ := optB_elim h
  exact ⟨_, fun w => rfl, h⟩
 case iface t v => exact ⟨_, fun w => rfl, h⟩
 case func f x y =>
  cases f <;> simp only at h
  exact ⟨_, fun w => rfl, h⟩
theorem idxAddr_sound {P : Program} {t : TypeId} {x ix : Value} {K : Value → Prop} (h : idxAddrW P t x ix K) : ∃ v, Gives P (Instr.indexAt t x ix) v ∧ K v := by
 unfold idxAddrW at h
 split at h
 ·rename_i k i
  split at h
  ·rename_i e A len cap hu
   unfold szOf at h
   split at h
   ·rename_i inf hi
    obtain ⟨a, rfl, h⟩ := optB_elim h
    obtain ⟨hb, h⟩ := req_elim h
    refine ⟨_, fun w => ?_, h⟩
    have hb' := of_decide_eq_true hb
    unfold Instr.indexAt
    simp only [asIntOf, pure_bind]
    rw [goes (underlying_gives hu w)]
    rw [goes (underlying_gives hu w)]
    simp only [hb', and_self, if_true]
    rw [goes (sizeOf_gives hi w)]; rfl
   ·exact h.elim
  ·rename_i len e a hu
   unfold szOf at h
   split at h
   ·rename_i inf hi
    obtain ⟨hb, h⟩ := req_elim h
    refine ⟨_, fun w => ?_, h⟩
    have hb' := of_decide_eq_true hb
    unfold Instr.indexAt
    simp only [asIntOf, pure_bind]
    rw [goes (underlying_gives hu w)]
    simp only [Instr.sureAddr, pure_bind]
    rw [goes (underlying_gives hu w)]
    simp only [hb', and_self, if_true]
    rw [goes (sizeOf_gives hi w)]; rfl
   ·exact h.elim
  ·exact h.elim
 ·exact h.elim
theorem idx_sound {P : Program} {t : TypeId} {x ix : Value} {K : Value → Prop} (h : idxW P t x ix K) : ∃ v, Gives P (Instr.index t x ix) v ∧ K v := by
 unfold idxW at h
 split at h
 ·rename_i k i
  split at h
  ·rename_i s hu
   obtain ⟨hb, h⟩ := req_elim h
   refine ⟨_, fun w => ?_, h⟩
   have hb' := of_decide_eq_true hb
   unfold Instr.index
   simp only [asIntOf, pure_bind]
   rw [goes (underlying_gives hu w)]
   have hlt : i.toNat < s.size := by omega
   have : s[i.toNat]? = some s[i.toNat] := by simp [hlt]
   simp only [hb'.1, if_true, this]
   have e : s.get! i.toNat = s[i.toNat] := by
    simp [ByteArray.get!, hlt, ByteArray.getElem_eq_getElem_data, getElem!_pos]
   rw [e]; rfl
  ·rename_i len e cs hu
   split at h
   ·exact h.elim
   ·exact h.elim
   ·rename_i k0 inf hd hi
    obtain ⟨hb, h⟩ := req_elim h
    simp only [Bool.and_eq_true, beq_iff_eq, decide_eq_true_eq] at hb
    obtain ⟨v, hv, h⟩ := optB_elim h
    split at h
    ·rename_i k' x
     obtain ⟨hk, h⟩ := req_elim h
     have hk' := of_decide_eq_true hk
     subst hk'
     refine ⟨_, fun w => ?_, h⟩
     unfold Instr.index
     simp only [asIntOf, pure_bind]
     rw [goes (underlying_gives hu w)]
     simp only [hb.2, and_self, if_true]
     rw [goes (sizeOf_gives hi w), hb.1, Nat.mul_one]
     unfold part isAgg
     rw [run_bind, goes (underlying_gives hd w)]
     simp only [pure, Sem.run, hv, Bool.false_eq_true, if_false]
    ·exact h.elim
   ·rename_i d inf hns hna hnk hd hi
    obtain ⟨hb, h⟩ := req_elim h
    simp only [Bool.and_eq_true, beq_iff_eq, decide_eq_true_eq] at hb
    obtain ⟨v, hv, h⟩ := optB_elim h
    refine ⟨v, fun w => ?_, h⟩
    unfold Instr.index
    simp only [asIntOf, pure_bind]
    rw [goes (underlying_gives hu w)]
    simp only [hb.2, and_self, if_true]
    rw [goes (sizeOf_gives hi w), hb.1, Nat.mul_one]
    unfold part isAgg
    rw [run_bind, goes (underlying_gives hd w)]
    cases d <;> first | exact absurd rfl (hns _) | exact absurd rfl (hna _ _) | (simp only [pure, Sem.run, hv, Bool.false_eq_true, if_false]; done)
   ·exact h.elim
  ·exact h.elim
 ·exact h.elim
theorem bnd_sound {P : Program} {v : Value} {y : Nat} {K : Nat → Prop} (h : bnd v y K) : ∃ i, (∀ c w, (Instr.sliceBound v y c).run P w = .ok i w) ∧ K i := by
 unfold bnd at h
 split at h
 ·rename_i k i
  obtain ⟨hb, h⟩ := req_elim h
  have hb' := of_decide_eq_true hb
  refine ⟨i.toNat, fun c w => ?_, h⟩
  unfold Instr.sliceBound
  simp only [asIntOf, pure_bind, hb', and_self, if_true]
  rfl
 ·exact h.elim
theorem bnds_sound {P : Program} {b : Bool} {len cap : Nat} {lo hi mx : Option Value} {K : Nat → Nat → Nat → Prop} (h : bnds len cap lo hi mx K) :
  ∃ l hh m, (∀ w, (Instr.sliceBounds b len cap lo hi mx).run P w = .ok (l, hh, m) w) ∧ K l hh m := by
 unfold bnds at h
 cases mx with
 | some vm =>
  obtain ⟨m, hm, h⟩ := bnd_sound (P := P) h
  cases hi with
  | none => exact h.elim
  | some vh =>
   obtain ⟨hh, hhh, h⟩ := bnd_sound (P := P) h
   cases lo with
   | none =>
    refine ⟨_, _, _, fun w => ?_, h⟩
    unfold Instr.sliceBounds
    rw [goes (hm _ w), goes (hhh _ w)]; rfl
   | some vl =>
    obtain ⟨l, hl, h⟩ := bnd_sound (P := P) h
    refine ⟨_, _, _, fun w => ?_, h⟩
    unfold Instr.sliceBounds
    rw [goes (hm _ w), goes (hhh _ w), goes (hl _ w)]; rfl
 | none =>
  cases hi with
  | none =>
   cases lo with
   | none => exact ⟨_, _, _, fun w => rfl, h⟩
   | some vl =>
    obtain ⟨l, hl, h⟩ := bnd_sound (P := P) h
    refine ⟨_, _, _, fun w => ?_, h⟩
    unfold Instr.sliceBounds
    simp only [pure_bind]
    rw [goes (hl _ w)]; rfl
  | some vh =>
   obtain ⟨hh, hhh, h⟩ := bnd_sound (P := P) h
   cases lo with
   | none =>
    refine ⟨_, _, _, fun w => ?_, h⟩
    unfold Instr.sliceBounds
    simp only [pure_bind]
    rw [goes (hhh _ w)]; rfl
   | some vl =>
    obtain ⟨l, hl, h⟩ := bnd_sound (P := P) h
    refine ⟨_, _, _, fun w => ?_, h⟩
    unfold Instr.sliceBounds
    simp only [pure_bind]
    rw [goes (hhh _ w), goes (hl _ w)]; rfl
theorem szOf_elim {P : Program} {t : TypeId} {K : Nat → Prop} (h : szOf P t K) : ∃ i, P.info? t = some i ∧ K i.size := by
 unfold szOf at h
 split at h
 ·rename_i i hi; exact ⟨i, hi, h⟩
 ·exact h.elim
theorem slice_sound {P : Program} {t : TypeId} {x : Value} {lo hi mx : Option Value} {K : Value → Prop} (h : sliceW P t x lo hi mx K) : ∃ v, Gives P (Instr.sliceAt t x lo hi mx) v ∧ K v := by
 unfold sliceW at h
 split at h
 ·rename_i e A len cap hu
  obtain ⟨inf, hi', h⟩ := szOf_elim h
  obtain ⟨l, hh, m, hr, h⟩ := bnds_sound (P := P) (b := true) h
  refine ⟨_, fun w => ?_, h⟩
  unfold Instr.sliceAt
  rw [goes (underlying_gives hu w)]
  show Sem.run P (Instr.slice t (.slice A len cap) lo hi mx) w = _
  unfold Instr.slice
  rw [goes (underlying_gives hu w)]
  show Sem.run P (Instr.sliceBounds true len cap lo hi mx >>= _) w = _
  rw [goes (hr w), goes (sizeOf_gives hi' w)]
  rfl
 ·rename_i s hu
  cases mx with
  | some _ => exact h.elim
  | none =>
   obtain ⟨l, hh, m, hr, h⟩ := bnds_sound (P := P) (b := false) h
   refine ⟨_, fun w => ?_, h⟩
   unfold Instr.sliceAt
   rw [goes (underlying_gives hu w)]
   show Sem.run P (Instr.slice t (.string s) lo hi none) w = _
   unfold Instr.slice
   rw [goes (underlying_gives hu w)]
   show Sem.run P (Instr.sliceBounds false s.size s.size lo hi none >>= _) w = _
   rw [goes (hr w)]
   rfl
 ·rename_i n e a hu
  obtain ⟨inf, hi', h⟩ := szOf_elim h
  obtain ⟨l, hh, m, hr, h⟩ := bnds_sound (P := P) (b := false) h
  refine ⟨_, fun w => ?_, h⟩
  unfold Instr.sliceAt
  rw [goes (underlying_gives hu w)]
  show Sem.run P (Instr.sliceBounds false n n lo hi mx >>= _) w = _
  rw [goes (hr w), goes (sizeOf_gives hi' w)]
  rfl
 ·exact h.elim
theorem arrPtr_sound {P : Program} {t : TypeId} {x : Value} {K : Value → Prop} (h : arrPtrW P t x K) : ∃ v, Gives P (Instr.arrayAt t x) v ∧ K v := by
 unfold arrPtrW at h
 split at h
 ·rename_i n e A len cap hu
  obtain ⟨hb, h⟩ := req_elim h
  obtain ⟨a, rfl, h⟩ := optB_elim h
  refine ⟨_, fun w => ?_, h⟩
  unfold Instr.arrayAt
  rw [goes (underlying_gives hu w)]
  have : ¬ len < n := by have := of_decide_eq_true hb; omega
  simp only [this, if_false]
  rfl
 ·exact h.elim
theorem div_sound {P : Program} {op : BinOp} {t : TypeId} {x y : Operand} {a b : Value} {K : Value → Prop} (hop : op = .quo ∨ op = .rem) (h : divW op a b K) :
  ∃ v, Gives P (do eqGuard op t x y a b; binOp op t a b) v ∧ K v := by
 unfold divW at h
 split at h
 ·rename_i k m k' n'
  rcases hop with rfl | rfl
  all_goals
   simp only at h
   obtain ⟨hb, h⟩ := req_elim h
   simp only [Bool.and_eq_true, decide_eq_true_eq, Bool.not_eq_true', decide_eq_false_iff_not] at hb
   refine ⟨_, fun w => ?_, h⟩
   obtain ⟨rfl, hn⟩ := hb
   simp [eqGuard, binOp, Op.intDiv, hn]
 ·exact h.elim
theorem sh_sound {P : Program} {op : BinOp} {t : TypeId} {x y : Operand} {a b : Value} {K : Value → Prop} (hop : op = .shl ∨ op = .shr) (h : shW op a b K) :
  ∃ v, Gives P (do eqGuard op t x y a b; binOp op t a b) v ∧ K v := by
 unfold shW at h
 split at h
 ·rename_i k m k' n'
  rcases hop with rfl | rfl
  all_goals
   simp only at h
   obtain ⟨hb, h⟩ := req_elim h
   simp only [Bool.not_eq_true', decide_eq_false_iff_not] at hb
   refine ⟨_, fun w => ?_, h⟩
   simp [eqGuard, binOp, Op.shift, hb]
 ·exact h.elim
theorem eqNil_gives {P : Program} {t : TypeId} {x y : Operand} {v u : Value} {b : Bool} (hg : ∀ w, (eqGuard .eql t x y v u).run P w = .ok () w) (hg' : ∀ w, (eqGuard .neq t x y v u).run P w = .ok () w)
  (hb : ∀ w, (Op.equal t v u).run P w = .ok b w) (h1 : binOp .eql t v u = (do pure (.bool (← Op.equal t v u)))) (h2 : binOp .neq t v u = (do pure (.bool (!(← Op.equal t v u))))) :
  Gives P (do eqGuard .eql t x y v u; binOp .eql t v u) (.bool b) ∧ Gives P (do eqGuard .neq t x y v u; binOp .neq t v u) (.bool !b) := by
 refine ⟨fun w => ?_, fun w => ?_⟩
 ·rw [goes (hg w), h1, goes (hb w)]; rfl
 ·rw [goes (hg' w), h2, goes (hb w)]; rfl
theorem eqCell_gives {P : Program} {d : Nat} {t : TypeId} {v u : Value} {b : Bool} (hk : kindOk P t v = true) (h : eqCell v u = some b) (w : World) :
  (Op.equalIn (d + 1) t v u).run P w = .ok b w := by
 unfold kindOk at hk
 unfold Op.equalIn
 split at hk
 ·rename_i hu
  rw [goes (underlying_gives hu w)]
  cases u <;> simp only [eqCell] at h
  all_goals (try cases h)
  split at h
  ·rename_i e; have e' := of_decide_eq_true e; subst e'
   injection h with h; subst h
   simp [pure]
  ·cases h
 ·rename_i hu
  rw [goes (underlying_gives hu w)]
  cases u <;> simp only [eqCell] at h
  all_goals (first | (injection h with h; subst h; rfl) | cases h)
 ·rename_i hu
  rw [goes (underlying_gives hu w)]
  cases u <;> simp only [eqCell] at h
  all_goals (first | (injection h with h; subst h; rfl) | cases h)
 ·cases hk
theorem part_gives {P : Program} {t : TypeId} {xs : Array Value} {i : Nat} {a b : Value} (hk : kindOk P t b = true) (h : xs[i]? = some a) (w : World) : (part t xs i).run P w = .ok a w := by
 unfold kindOk at hk
 unfold part isAgg
 rw [run_bind]
 split at hk
 ·rename_i hu; rw [goes (underlying_gives hu w)]; simp only [pure, Sem.run, h, Bool.false_eq_true, if_false]
 ·rename_i hu; rw [goes (underlying_gives hu w)]; simp only [pure, Sem.run, h, Bool.false_eq_true, if_false]
 ·rename_i hu; rw [goes (underlying_gives hu w)]; simp only [pure, Sem.run, h, Bool.false_eq_true, if_false]
 ·cases hk
theorem eqFs_gives {P : Program} {d : Nat} {xs ys : Array Value} (w : World) : ∀ (fs : List Field) (b : Bool), eqFs P xs ys fs = some b →
  (forIn (m := Sem) fs ((none, ()) : Option Bool × Unit) fun f _ =>
       if f.name ≠ "_" then do
        if (!(← Op.equalIn (d + 1) f.type (← part f.type xs f.offset) (← part f.type ys f.offset))) = true then pure (ForInStep.done (some false, ()))
         else pure (ForInStep.yield (none, ()))
       else pure (ForInStep.yield (none, ()))).run P w = .ok ((if b then none else some false), ()) w
 | [], b, h => by injection h with h; subst h; rfl
 | f :: r, b, h => by
  simp only [eqFs] at h
  split at h
  ·cases h
  ·rename_i hn
   have hn' : f.name ≠ "_" := by simpa using hn
   split at h
   ·rename_i x y hx hy
    split at h
    ·rename_i hk
     split at h
     ·rename_i c e hc he
      injection h with h; subst h
      rw [List.forIn_cons]
      simp only [hn', ne_eq, not_false_eq_true, if_true]
      rw [run_bind, goes (part_gives hk hx w), goes (part_gives hk hy w), goes (eqCell_gives hk hc w)]
      cases c
      ·rfl
      ·exact eqFs_gives w r e he
     ·cases h
    ·cases h
   ·cases h
theorem eqArr_gives {P : Program} {d : Nat} {e : TypeId} {xs ys : Array Value} (w : World) : ∀ (k i : Nat) (b : Bool), eqArr P e xs ys k i = some b →
  (forIn (m := Sem) (List.range' i k) ((none, ()) : Option Bool × Unit) fun i _ => do
        if (!(← Op.equalIn (d + 1) e (← part e xs (i * 1)) (← part e ys (i * 1)))) = true then pure (ForInStep.done (some false, ()))
         else pure (ForInStep.yield (none, ()))).run P w = .ok ((if b then none else some false), ()) w
 | 0, i, b, h => by injection h with h; subst h; rfl
 | k + 1, i, b, h => by
  simp only [eqArr] at h
  split at h
  ·rename_i x y hx hy
   split at h
   ·rename_i hk
    split at h
    ·rename_i c e' hc he
     injection h with h; subst h
     rw [List.range'_succ, List.forIn_cons]
     rw [run_bind, Nat.mul_one, goes (part_gives hk hx w), goes (part_gives hk hy w), goes (eqCell_gives hk hc w)]
     cases c
     ·rfl
     ·exact eqArr_gives w k (i + 1) e' he
    ·cases h
   ·cases h
  ·cases h
theorem eqAgg_gives {P : Program} {t : TypeId} {x y : Operand} {v u : Value} {b : Bool} (h : eqAgg P t v u = some b) :
  Gives P (do eqGuard .eql t x y v u; binOp .eql t v u) (.bool b) ∧ Gives P (do eqGuard .neq t x y v u; binOp .neq t v u) (.bool !b) := by
 unfold eqAgg at h
 split at h
 ·rename_i fs xs ys hu
  split at h
  ·rename_i hs hg
   have hgd : ∀ op w, (eqGuard op t x y (.agg xs) (.agg ys)).run P w = .ok () w := by
    intro op w
    unfold eqGuard
    cases op
    case eql =>
     show Sem.run P (program >>= _) w = _
     rw [goes (a := P) (w' := w) rfl]
     show Sem.run P (program >>= _) w = _
     rw [goes (a := P) (w' := w) rfl]
     simp only [hg]; rfl
    case neq =>
     show Sem.run P (program >>= _) w = _
     rw [goes (a := P) (w' := w) rfl]
     show Sem.run P (program >>= _) w = _
     rw [goes (a := P) (w' := w) rfl]
     simp only [hg]; rfl
    all_goals rfl
   refine eqNil_gives (hgd _) (hgd _) (fun w => ?_) rfl rfl
   unfold Op.equal
   show (Op.equalIn (9998 + 1 + 1) t _ _).run P w = _
   unfold Op.equalIn
   rw [goes (underlying_gives hu w)]
   show Sem.run P (program >>= _) w = _
   rw [goes (a := P) (w' := w) rfl]
   simp only [hs]
   rw [← Array.forIn_toList]
   simp only [Bool.false_eq_true, if_false]
   refine (goes (eqFs_gives (d := 9998) w fs.toList b h)).trans ?_
   cases b <;> rfl
  ·cases h
 ·rename_i n e xs ys hu
  split at h
  ·rename_i inf hg hi
   split at h
   ·rename_i h1
    have h1' := Nat.eq_of_beq_eq_true h1
    have hgd : ∀ op w, (eqGuard op t x y (.agg xs) (.agg ys)).run P w = .ok () w := by
     intro op w
     unfold eqGuard
     cases op
     case eql =>
      show Sem.run P (program >>= _) w = _
      rw [goes (a := P) (w' := w) rfl]
      show Sem.run P (program >>= _) w = _
      rw [goes (a := P) (w' := w) rfl]
      simp only [hg]; rfl
     case neq =>
      show Sem.run P (program >>= _) w = _
      rw [goes (a := P) (w' := w) rfl]
      show Sem.run P (program >>= _) w = _
      rw [goes (a := P) (w' := w) rfl]
      simp only [hg]; rfl
     all_goals rfl
    refine eqNil_gives (hgd _) (hgd _) (fun w => ?_) rfl rfl
    unfold Op.equal
    show (Op.equalIn (9998 + 1 + 1) t _ _).run P w = _
    unfold Op.equalIn
    rw [goes (underlying_gives hu w), goes (sizeOf_gives hi w), h1']
    simp only [Std.Legacy.Range.forIn_eq_forIn_range', Std.Legacy.Range.size]
    rw [show (n - 0 + 1 - 1) / 1 = n by omega]
    refine (goes (eqArr_gives (d := 9998) w n 0 b h)).trans ?_
    cases b <;> rfl
   ·cases h
  ·cases h
 ·cases h
theorem nilPtr {P : Program} {t e : TypeId} {x y : Operand} {p : Option Addr} (hu : P.underlying t = some (.pointer e)) :
  Gives P (do eqGuard .eql t x y (.pointer p) (.pointer none); binOp .eql t (.pointer p) (.pointer none)) (.bool p.isNone) ∧
  Gives P (do eqGuard .neq t x y (.pointer p) (.pointer none); binOp .neq t (.pointer p) (.pointer none)) (.bool !p.isNone) := by
 refine eqNil_gives (fun w => rfl) (fun w => rfl) (fun w => ?_) rfl rfl
 unfold Op.equal
 show (Op.equalIn (9999 + 1) t _ _).run P w = _
 unfold Op.equalIn
 rw [goes (underlying_gives hu w)]
 cases p <;> rfl
theorem nilSlice {P : Program} {t e : TypeId} {x y : Operand} {A : Option Addr} {n c : Nat} (hu : P.underlying t = some (.slice e)) :
  Gives P (do eqGuard .eql t x y (.slice A n c) (.slice none 0 0); binOp .eql t (.slice A n c) (.slice none 0 0)) (.bool A.isNone) ∧
  Gives P (do eqGuard .neq t x y (.slice A n c) (.slice none 0 0); binOp .neq t (.slice A n c) (.slice none 0 0)) (.bool !A.isNone) := by
 refine eqNil_gives (fun w => rfl) (fun w => rfl) (fun w => ?_) rfl rfl
 unfold Op.equal
 show (Op.equalIn (9999 + 1) t _ _).run P w = _
 unfold Op.equalIn
 rw [goes (underlying_gives hu w)]
 cases A <;> rfl
theorem nilMap {P : Program} {t e f : TypeId} {x y : Operand} {A : Option Nat} (hu : P.underlying t = some (.map e f)) :
  Gives P (do eqGuard .eql t x y (.map A) (.map none); binOp .eql t (.map A) (.map none)) (.bool A.isNone) ∧
  Gives P (do eqGuard .neq t x y (.map A) (.map none); binOp .neq t (.map A) (.map none)) (.bool !A.isNone) := by
 refine eqNil_gives (fun w => rfl) (fun w => rfl) (fun w => ?_) rfl rfl
 unfold Op.equal
 show (Op.equalIn (9999 + 1) t _ _).run P w = _
 unfold Op.equalIn
 rw [goes (underlying_gives hu w)]
 cases A <;> rfl
theorem spW_sound {P : Program} {n : Nat} {σ : Fr} {o : Oper} {K : Value → Prop} (h : spW P n σ o.op K) :
  ∃ v, (∀ w, (execOp (ev n σ) o).run P w = .ok (.value v) w) ∧ K v := by
 obtain ⟨dst, op, ty, pos, after, guard⟩ := o
 simp only at h
 unfold spW at h
 split at h
 ·rename_i x
  obtain ⟨v, hv, hk⟩ := nilW_sound (P := P) h
  exact ⟨v, fun w => hv w, hk⟩
 ·rename_i c a b
  split at h
  ·rename_i t ht
   refine ⟨_, fun w => ?_, h⟩
   simp only [execOp, ht, asBool, pure_bind, pickV_eq]
   rfl
  ·exact h.elim
 ·obtain ⟨v, hv, hk⟩ := idxAddr_sound h; exact ⟨v, fun w => hv.next w, hk⟩
 ·obtain ⟨v, hv, hk⟩ := idx_sound h; exact ⟨v, fun w => hv.next w, hk⟩
 ·obtain ⟨v, hv, hk⟩ := slice_sound h; exact ⟨v, fun w => hv.next w, hk⟩
 ·obtain ⟨v, hv, hk⟩ := arrPtr_sound h; exact ⟨v, fun w => hv.next w, hk⟩
 ·obtain ⟨v, hv, hk⟩ := div_sound (.inl rfl) h; exact ⟨v, fun w => hv.next w, hk⟩
 ·obtain ⟨v, hv, hk⟩ := div_sound (.inr rfl) h; exact ⟨v, fun w => hv.next w, hk⟩
 ·obtain ⟨v, hv, hk⟩ := sh_sound (.inl rfl) h; exact ⟨v, fun w => hv.next w, hk⟩
 ·obtain ⟨v, hv, hk⟩ := sh_sound (.inr rfl) h; exact ⟨v, fun w => hv.next w, hk⟩
 ·split at h
  ·rename_i hu hv
   exact ⟨_, fun w => by simp only [execOp]; rw [hv]; exact ((nilPtr hu).1).next w, h⟩
  ·exact h.elim
 ·split at h
  ·rename_i hu hv
   exact ⟨_, fun w => by simp only [execOp]; rw [hv]; exact ((nilPtr hu).2).next w, h⟩
  ·exact h.elim
 ·split at h
  ·rename_i hu hv
   exact ⟨_, fun w => by simp only [execOp]; rw [hv]; exact ((nilSlice hu).1).next w, h⟩
  ·exact h.elim
 ·split at h
  ·rename_i hu hv
   exact ⟨_, fun w => by simp only [execOp]; rw [hv]; exact ((nilSlice hu).2).next w, h⟩
  ·exact h.elim
 ·split at h
  ·rename_i hu hv
   exact ⟨_, fun w => by simp only [execOp]; rw [hv]; exact ((nilMap hu).1).next w, h⟩
  ·exact h.elim
 ·split at h
  ·rename_i hu hv
   exact ⟨_, fun w => by simp only [execOp]; rw [hv]; exact ((nilMap hu).2).next w, h⟩
  ·exact h.elim
 ·split at h
  ·rename_i b hb
   exact ⟨_, fun w => ((eqAgg_gives hb).1).next w, h⟩
  ·exact h.elim
 ·split at h
  ·rename_i b hb
   exact ⟨_, fun w => ((eqAgg_gives hb).2).next w, h⟩
  ·exact h.elim
 ·exact h.elim
def isMapT (P : Program) (t : TypeId) : Bool := match P.underlying t with | some (.map _ _) => true | _ => false
def isIntT (P : Program) (t : TypeId) : Bool := match P.underlying t with | some (.int _) => true | _ => false
def bigT (P : Program) (t : TypeId) : Bool := match P.info? t with | some i => Nat.blt 64 i.size | none => false
def rawT (P : Program) (op : BinOp) (t : TypeId) : Bool := match P.underlying t with
 | some (.float _) => true
 | some (.complex _) => true
 | some .string => (match op with | .add => true | _ => false)
 | some (.struct _) => true
 | some (.array _ _) => true
 | some (.interface _) => true
 | some (.pointer _) => true
 | _ => false
def rawV (P : Program) (ρ : Operand → Value) (op : Op) (ty : TypeId) : Option (Sem Value) := match op with
 | .call ⟨.builtin .append, args, ts⟩ => some (Builtin.append_ ts ty (args.map ρ))
 | .call ⟨.builtin .copy, args, ts⟩ => some (Builtin.copy_ ts ty (args.map ρ))
 | .call ⟨.builtin .delete, args, ts⟩ => some (Builtin.delete_ ts ty (args.map ρ))
 | .call ⟨.builtin .clear, args, ts⟩ => some (Builtin.clear_ ts ty (args.map ρ))
 | .call ⟨.builtin .len, args, ts⟩ => match isMapT P (ts.getD 0 0) with
  | true => some (Builtin.len_ ts ty (args.map ρ))
  | false => none
 | .lookup t x ix ok => some (Instr.lookup t (ρ x) (ρ ix) ok)
 | .mapEntry t m k => some (Instr.mapEntry t (ρ m) (ρ k))
 | .makeSlice t l c => some (Instr.makeSlice t (ρ l) (ρ c))
 | .convert src dst x => match isIntT P src && isIntT P dst with
  | true => none
  | false => some (Go.convert src dst (ρ x))
 | .range t x => some (Instr.range t (ρ x))
 | .next it b => some (Instr.next (ρ it) b ty)
 | .entry it => some (Instr.entry (ρ it))
 | .load t a => match bigT P t with
  | true => some (Instr.loadAt t (ρ a))
  | false => none
 | .binOp op t x y _ => match rawT P op t with
  | true => some (do eqGuard op t x y (ρ x) (ρ y); binOp op t (ρ x) (ρ y))
  | false => none
 | _ => none
def rawU (P : Program) (ρ : Operand → Value) (op : Op) : Option (Sem Unit) := match op with
 | .store t a x => match bigT P t with
  | true => some (Instr.storeAt t (ρ a) (ρ x))
  | false => none
 | .mapUpdate t m k x => some (Instr.mapUpdate t (ρ m) (ρ k) (ρ x))
 | .insert t m k x => some (Instr.mapUpdate t (ρ m) (ρ k) (ρ x))
 | .entryStore t m s x => some (Instr.entryStore t (ρ m) (ρ s) (ρ x))
 | _ => none
def isExtF (P : Program) (f : FuncId) : Bool := match P.funcs[f]? with | some fn => fn.body.isNone | none => false
def rawX (P : Program) (ρ : Operand → Value) (op : Op) : Option (Sem Next) := match op with
 | .call ⟨.value (.func f), args, _⟩ => match isExtF P f with
  | true => some (callFunc f (args.map ρ))
  | false => none
 | _ => none
theorem rawV_run {P : Program} {ρ : Operand → Value} {o : Oper} {s : Sem Value} (h : rawV P ρ o.op o.type = some s) : execOp ρ o = (do pure (Next.value (← s)) : Sem Next) := by
 obtain ⟨dst, op, ty, pos, after, guard⟩ := o
 simp only at h
 unfold rawV at h
 split at h <;> first
  | (injection h with h; subst h; rfl)
  | (split at h <;> first | (injection h with h; subst h; rfl) | cases h)
  | cases h
theorem rawX_run {P : Program} {n : Nat} {σ : Fr} {o : Oper} {s : Sem Next} (h : rawX P (ev n σ) o.op = some s) : execOp (ev n σ) o = s := by
 obtain ⟨dst, op, ty, pos, after, guard⟩ := o
 simp only at h
 unfold rawX at h
 split at h
 ·split at h
  ·injection h with h; subst h
   simp [execOp, resolve, invoke, Deferred.ofValue, ev]
  ·cases h
 ·cases h
theorem rawU_run {P : Program} {ρ : Operand → Value} {o : Oper} {s : Sem Unit} (h : rawU P ρ o.op = some s) : execOp ρ o = (do s; pure Next.skip : Sem Next) := by
 obtain ⟨dst, op, ty, pos, after, guard⟩ := o
 simp only at h
 unfold rawU at h
 split at h <;> first
  | (injection h with h; subst h; rfl)
  | (split at h <;> first | (injection h with h; subst h; rfl) | cases h)
  | cases h
def opW (P : Program) (hT : Hint) (n : Nat) (o : Oper) (σ : Fr) (K : Fr → World → Prop) (w : World) : Prop :=
 match isSp P o.op with
 | true => spW P n σ o.op fun v => K (putO σ o.dst v) w
 | false => match rawV P (ev n σ) o.op o.type with
  | some s => Runs P s w fun v w' => bindRet (retOf hT o.op o.type o.dst) fun v' => v = v' ∧ K (putO σ o.dst v') w'
  | none => match rawU P (ev n σ) o.op with
   | some s => Runs P s w fun _ w' => K (putO σ o.dst undef) w'
   | none => match rawX P (ev n σ) o.op with
    | some s => Runs P s w fun x w' => bindRet (hT o.type) fun v => x = .value v ∧ K (putO σ o.dst v) w'
    | none => wpS P (execOp (ev n σ) o) (match o.op with | .load t _ => (hT t).loads | _ => []) (opK P hT o σ K) w
theorem opW_sound {P : Program} {hT : Hint} {n : Nat} {o : Oper} {σ : Fr} {K : Fr → World → Prop} {next : Act → World → Prop} {Q : Exit → Act → World → Prop}
  {w : World} (hK : ∀ σ' w', K σ' w' → next (act ds n σ') w') (h : opW P hT n o σ K w) : o.wp P (act ds n σ) w next Q := by
 unfold opW at h
 split at h
 ·obtain ⟨v, hv, hk⟩ := spW_sound h
  unfold Oper.wp
  rw [act_eval, hv w]
  simp only [Oper.upon]; rw [act_put]; exact hK _ _ hk
 ·split at h
  ·rename_i s hs
   obtain ⟨v, w', hr, hk⟩ := h
   obtain ⟨v', rfl, hk⟩ := bindRet_elim hk
   unfold Oper.wp
   rw [act_eval, rawV_run hs, goes hr]
   show next ((act ds n σ).put o.dst v) w'
   rw [act_put]; exact hK _ _ hk
  ·split at h
   ·rename_i s hs
    obtain ⟨v, w', hr, hk⟩ := h
    unfold Oper.wp
    rw [act_eval, rawU_run hs, goes hr]
    show next ((act ds n σ).put o.dst undef) w'
    rw [act_put]; exact hK _ _ hk
   ·split at h
    ·rename_i s hs
     obtain ⟨x, w', hr, hk⟩ := h
     obtain ⟨v, hx, hk2⟩ := bindRet_elim hk
     subst hx
     unfold Oper.wp
     rw [act_eval, rawX_run hs, hr]
     simp only [Oper.upon]; rw [act_put]; exact hK _ _ hk2
    ·obtain ⟨x, w', hr, hk⟩ := wpS_run _ _ _ _ _ h
     exact opK_sound hK hr hk
def guardW (ops : Array Oper) (o : Oper) (σ : Fr) (n : Nat) (X : Fr → Prop) (Y : Fr → Prop) : Prop := match o.guard with
 | none => X σ
 | some (j, want) => match (ops[j]?).bind (·.dst) with
  | some s => req (Nat.blt s n) (match σ s with
   | .bool b => sel b (match want with | true => X (up σ s (.bool true)) | false => Y (up σ s (.bool true))) (match want with | true => Y (up σ s (.bool false)) | false => X (up σ s (.bool false)))
   | .tuple _ => Y σ
   | _ => False)
  | none => False
theorem guardW_sound {ops : Array Oper} {o : Oper} {σ : Fr} {n : Nat} {X Y : Fr → Prop} (h : guardW ops o σ n X Y) :
  (Region.wanted o (yielded ops (act ds n σ).tmps) = true ∧ X σ) ∨ (Region.wanted o (yielded ops (act ds n σ).tmps) = false ∧ Y σ) := by
 unfold guardW at h
 unfold Region.wanted
 split at h
 ·rename_i hg; rw [hg]; exact .inl ⟨rfl, h⟩
 ·rename_i j want hg
  rw [hg]
  split at h
  ·rename_i s hs
   obtain ⟨hlt, h⟩ := req_elim h
   have hlt' : s < n := Nat.blt_eq.mp hlt
   split at h
   ·rename_i b hb
    have hy : yielded ops (act ds n σ).tmps j = some b := by
     unfold yielded
     rw [hs]
     simp only [Option.bind_some]
     rw [act_get, if_pos hlt', hb]
    simp only [hy]
    cases b <;> cases want <;> simp only [sel] at h <;> rw [up_self hb] at h
    ·exact .inl ⟨rfl, h⟩
    ·exact .inr ⟨rfl, h⟩
    ·exact .inr ⟨rfl, h⟩
    ·exact .inl ⟨rfl, h⟩
   ·rename_i vs hb
    have hy : yielded ops (act ds n σ).tmps j = none := by
     unfold yielded
     rw [hs]
     simp only [Option.bind_some]
     rw [act_get, if_pos hlt', hb]
    simp only [hy]
    exact .inr ⟨rfl, h⟩
   ·exact h.elim
  ·exact h.elim
def opsW (P : Program) (hT : Hint) (n : Nat) (ops : Array Oper) : List Oper → Fr → (Fr → World → Prop) → World → Prop
 | [], σ, K, w => K σ w
 | o :: r, σ, K, w => guardW ops o σ n (fun σ => opW P hT n o σ (fun σ' w' => opsW P hT n ops r σ' K w') w) (fun σ => opsW P hT n ops r (putO σ o.dst undef) K w)
theorem opsW_sound {P : Program} {hT : Hint} {n : Nat} {ops : Array Oper} {Q : Exit → Act → World → Prop} {K : Fr → World → Prop}
  (hK : ∀ σ' w', K σ' w' → Q .normal (act ds n σ') w') : ∀ (l : List Oper) (σ : Fr) (w : World), opsW P hT n ops l σ K w → wpList P ops Q l (act ds n σ) w
 | [], σ, w, h => hK σ w h
 | o :: r, σ, w, h => by
  unfold wpList
  rcases guardW_sound h with ⟨hw, h⟩ | ⟨hw, h⟩
  ·rw [if_pos hw]
   exact .inl (opW_sound (fun σ' w' h' => opsW_sound hK r σ' w' h') h)
  ·rw [if_neg (by rw [hw]; exact Bool.false_ne_true), act_put]
   exact opsW_sound hK r _ w h
def rdP (P : Program) {α : Type} : Sem α → List Sh → (Addr → Value → Prop) → (α → Prop) → Prop
 | .pure a, _, _, K => K a
 | .load _ a k, hs, rd, K => bindSh (hs.headD .any) fun v => rd a v ∧ rdP P (k v) hs.tail rd K
 | .program k, hs, rd, K => rdP P (k P) hs rd K
 | .mark _ k, hs, rd, K => rdP P k hs rd K
 | _, _, _, _ => False
theorem rdP_run (P : Program) {α : Type} (S : World → Prop) (rd : Addr → Value → Prop) (hrd : ∀ a v, rd a v → ∀ w, S w → w.cell? a = some v) (s : Sem α) :
  ∀ (hs : List Sh) (K : α → Prop), rdP P s hs rd K → ∃ a, (∀ w, S w → s.run P w = .ok a w) ∧ K a := by
 induction s with
 | pure a => intro hs K h; exact ⟨a, fun w _ => rfl, h⟩
 | load m a k ih =>
  intro hs K h
  obtain ⟨v, hc, h⟩ := bindSh_elim h
  obtain ⟨x, hr, hk⟩ := ih v _ _ h
  exact ⟨x, fun w hw => by simp only [Sem.run, hrd a v hc w hw]; exact hr w hw, hk⟩
 | program k ih => intro hs K h; obtain ⟨x, hr, hk⟩ := ih _ _ _ h; exact ⟨x, fun w hw => hr w hw, hk⟩
 | mark m k ih => intro hs K h; obtain ⟨x, hr, hk⟩ := ih _ _ h; exact ⟨x, fun w hw => hr w hw, hk⟩
 | _ => intro hs K h; exact h.elim
def valW (P : Program) (hT : Hint) (n : Nat) (o : Oper) (σ : Fr) (rd : Addr → Value → Prop) (K : Value → Prop) : Prop :=
 match isSp P o.op with
 | true => spW P n σ o.op K
 | false => rdP P (execOp (ev n σ) o) (match o.op with | .load t _ => (hT t).loads | _ => []) rd fun x => match x with | .value v => K v | _ => False
def fstW (P : Program) (hT : Hint) (n : Nat) (ops : Array Oper) (o : Oper) (σ : Fr) (rd : Addr → Value → Prop) (K : Fr → Prop) : Prop :=
 guardW ops o σ n (fun σ => valW P hT n o σ rd fun v => K (putO σ o.dst v)) (fun σ => K (putO σ o.dst undef))
theorem fstW_sound {P : Program} {hT : Hint} {n : Nat} {ops : Array Oper} {o : Oper} {σ : Fr} {rd : Addr → Value → Prop} {K : Fr → Prop} {S : World → Prop}
  (hrd : ∀ a v, rd a v → ∀ w, S w → w.cell? a = some v) (h : fstW P hT n ops o σ rd K) : ∃ v, YieldsIf P ops S o v (act ds n σ) ∧ K (putO σ o.dst v) := by
 rcases guardW_sound h with ⟨hw, h⟩ | ⟨hw, h⟩
 ·unfold valW at h
  split at h
  ·obtain ⟨v, hv, hk⟩ := spW_sound h
   exact ⟨v, .inl ⟨hw, fun w _ => by rw [act_eval]; exact hv w⟩, hk⟩
  ·obtain ⟨x, hr, hk⟩ := rdP_run P S rd hrd _ _ _ h
   cases x <;> simp only at hk
   exact ⟨_, .inl ⟨hw, fun w hw' => by rw [act_eval]; exact hr w hw'⟩, hk⟩
 ·exact ⟨undef, .inr ⟨hw, rfl⟩, h⟩
inductive DI where
 | fst (i : Nat) | eff (i : Nat)
def DI.ix : DI → Nat
 | .fst i => i
 | .eff i => i
def effW (P : Program) (hT : Hint) (n : Nat) (ops : Array Oper) (o : Oper) (σ : Fr) (K : Fr → World → Prop) (w : World) : Prop :=
 guardW ops o σ n (fun σ => opW P hT n o σ K w) (fun σ => K (putO σ o.dst undef) w)
theorem effW_sound {P : Program} {hT : Hint} {n : Nat} {ops : Array Oper} {o : Oper} {i : Nat} {σ : Fr} {K : Fr → World → Prop} {w : World} {Q : Exit → Act → World → Prop} {K' : Act → World → Prop}
  (hi : ops[i]? = some o) (hK : ∀ σ' w', K σ' w' → K' (act ds n σ') w') (h : effW P hT n ops o σ K w) : wpOp P ops Q i K' (act ds n σ) w := by
 unfold wpOp
 simp only [hi]
 rcases guardW_sound h with ⟨hw, h⟩ | ⟨hw, h⟩
 ·rw [if_pos hw]; exact .inl (opW_sound hK h)
 ·rw [if_neg (by rw [hw]; exact Bool.false_ne_true), act_put]; exact hK _ _ h
def drawB (P : Program) (hT : Hint) (n : Nat) (ops : Array Oper) : List DI → Fr → (Fr → World → Prop) → World → Prop
 | [], σ, K, w => K σ w
 | .fst i :: r, σ, K, w => match ops[i]? with
  | some o => fstW P hT n ops o σ (fun _ _ => False) fun σ' => drawB P hT n ops r σ' K w
  | none => False
 | .eff i :: r, σ, K, w => match ops[i]? with
  | some o => effW P hT n ops o σ (fun σ' w' => drawB P hT n ops r σ' K w') w
  | none => False
def drawA (P : Program) (hT : Hint) (n : Nat) (ops : Array Oper) (S : World → Prop) (rd : Addr → Value → Prop) : List DI → Fr → (Fr → World → Prop) → World → Prop
 | [], σ, K, w => K σ w
 | .fst i :: r, σ, K, w => match ops[i]? with
  | some o => fstW P hT n ops o σ rd fun σ' => drawA P hT n ops S rd r σ' K w
  | none => False
 | .eff i :: r, σ, K, w => match ops[i]? with
  | some o => effW P hT n ops o σ (fun σ' w' => S w' ∧ drawA P hT n ops S rd r σ' K w') w
  | none => False
def stepOk (ops : Array Oper) (d : DI) (listed : Array Bool) : Bool := match d with
 | .fst i => (Region.ready .any ops listed).contains i && Region.free .any ops listed i
 | .eff i => match Region.ready .any ops listed with
  | [j] => j == i
  | _ => false
def chkB (ops : Array Oper) : List DI → Array Bool → Bool
 | [], listed => (Region.ready .any ops listed).isEmpty
 | d :: r, listed => stepOk ops d listed && chkB ops r (listed.setIfInBounds d.ix true)
def uni (M : List Nat) (i : Nat) (l : List Edge) : Nat := match l with
 | [] => 0
 | e :: r => match Region.binds .any e && Nat.blt e.on i with
  | true => uni M i r ||| (2 ^ e.on ||| M.getD e.on 0)
  | false => uni M i r
def masks (l : List Oper) (acc : List Nat) : List Nat := match l with
 | [] => acc
 | o :: r => masks r (acc ++ [uni acc acc.length o.after.toList])
def certOk (ops : Array Oper) (M : List Nat) : Bool := (List.range ops.size).all fun i => match ops[i]? with
 | some o => let u := uni M i o.after.toList; Nat.beq (u ||| M.getD i 0) u
 | none => false
theorem uni_bit {M : List Nat} {i h : Nat} : ∀ {l : List Edge}, (uni M i l).testBit h = true → ∃ e ∈ l, Region.binds .any e = true ∧ e.on < i ∧ (e.on = h ∨ (M.getD e.on 0).testBit h = true)
 | [], hb => by simp [uni] at hb
 | e :: r, hb => by
  simp only [uni] at hb
  split at hb
  ·rename_i hc
   simp only [Bool.and_eq_true] at hc
   rw [Nat.testBit_or, Nat.testBit_or, Bool.or_eq_true, Bool.or_eq_true] at hb
   rcases hb with hb | hb | hb
   ·obtain ⟨e', he', h'⟩ := uni_bit hb; exact ⟨e', List.mem_cons_of_mem _ he', h'⟩
   ·refine ⟨e, List.mem_cons_self, hc.1, Nat.blt_eq.mp hc.2, .inl ?_⟩
    rw [Nat.testBit_two_pow] at hb
    simpa using hb
   ·exact ⟨e, List.mem_cons_self, hc.1, Nat.blt_eq.mp hc.2, .inr hb⟩
  ·obtain ⟨e', he', h'⟩ := uni_bit hb; exact ⟨e', List.mem_cons_of_mem _ he', h'⟩
def chkA (ops : Array Oper) (hd : List Nat) (B : List DI) : List DI → Array Bool → Bool
 | [], listed => (Region.ready .any ops listed).all (fun j => !hd.contains j) && chkB ops B listed
 | d :: r, listed => hd.contains d.ix && stepOk ops d listed && chkA ops hd B r (listed.setIfInBounds d.ix true)
def chkD (ops : Array Oper) (A B : List DI) : Bool :=
 Region.noSelect ops && (A.length + B.length == ops.size) &&
 certOk ops (masks ops.toList []) &&
 (List.range ops.size).all (fun t => (A.map DI.ix).contains t || (A.map DI.ix).all fun h => ((masks ops.toList []).getD t 0).testBit h) &&
 chkA ops (A.map DI.ix) B A (Array.replicate ops.size false)
theorem stepOk_eff {ops : Array Oper} {i : Nat} {listed : Array Bool} (h : stepOk ops (.eff i) listed = true) : Region.ready .any ops listed = [i] := by
 unfold stepOk at h
 split at h
 ·cases ‹DI.eff i = DI.fst _›
 ·rename_i i' hi
  injection hi with hi; subst hi
  split at h
  ·rename_i j hj; rw [hj]; simpa using h
  ·cases h
section
variable {P : Program} {hT : Hint} {n : Nat} {ops : Array Oper} {Q : Exit → Act → World → Prop}
theorem drawB_sound {K : Fr → World → Prop} (hs : Region.noSelect ops = true) (hQ : ∀ c a w, ¬ Q (.panic c) a w) (hK : ∀ σ w, K σ w → Q .normal (act ds n σ) w) :
  ∀ (l : List DI) (listed : Array Bool) (σ : Fr) (w : World), chkB ops l listed = true → drawB P hT n ops l σ K w → wpAny P .any ops Q l.length listed (act ds n σ) w
 | [], listed, σ, w, hc, h => by
  refine wpAny_done ?_ (hK σ w h) 0
  simpa [chkB] using hc
 | .fst i :: r, listed, σ, w, hc, h => by
  simp only [chkB, stepOk, DI.ix, Bool.and_eq_true] at hc
  obtain ⟨⟨hr, hf⟩, hc⟩ := hc
  simp only [drawB] at h
  split at h
  ·rename_i o ho
   obtain ⟨v, hy, h⟩ := fstW_sound (S := fun _ => True) (fun a v h => h.elim) h
   refine wpAny_take ho hs hf hr (fun c a w hh => absurd hh (hQ _ _ _)) ?_ ?_ (v := v)
   ·exact hy.imp (fun ⟨a, b⟩ => ⟨a, fun w => b w trivial⟩) id
   ·rw [act_put]; exact drawB_sound hs hQ hK r _ _ w hc h
  ·exact h.elim
 | .eff i :: r, listed, σ, w, hc, h => by
  simp only [chkB, DI.ix, Bool.and_eq_true] at hc
  obtain ⟨hr, hc⟩ := hc
  simp only [drawB] at h
  split at h
  ·rename_i o ho
   refine wpAny_all (stepOk_eff hr) (by simp) ?_
   intro j hj
   obtain rfl : j = i := by simpa using hj
   exact effW_sound ho (fun σ' w' h' => drawB_sound hs hQ hK r _ σ' w' hc h') h
  ·exact h.elim
structure Inv (ops : Array Oper) (pre : List Nat) (listed : Array Bool) : Prop where
 size : listed.size = ops.size
 did : ∀ p ∈ pre, listed.getD p false = true
 closed : ∀ j oj, ops[j]? = some oj → listed.getD j false = true → ∀ e ∈ oj.after, Region.binds .any e = true → listed.getD e.on false = true
theorem getD_ft {listed : Array Bool} {i : Nat} (h : listed.getD i true = false) : listed.getD i false = false := by
 rcases Nat.lt_or_ge i listed.size with h' | h'
 ·simp [h'] at h ⊢; exact h
 ·simp [Array.getElem?_eq_none h'] at h
theorem Inv.set {hd : List Nat} {i : Nat} {listed : Array Bool} (inv : Inv ops hd listed) (hi : i ∈ Region.ready .any ops listed) : Inv ops hd (listed.setIfInBounds i true) := by
 obtain ⟨_, oi, hoi, hall⟩ := mem_ready.1 hi
 refine ⟨by simp [inv.size], fun p hp => getD_set_true (inv.did p hp), fun j oj hj hl e he hb => ?_⟩
 by_cases hij : i = j
 ·subst hij
  have : oj = oi := Option.some.inj (hj.symm.trans hoi)
  subst this
  exact getD_set_true (hall e he hb)
 ·rw [getD_set_ne false hij] at hl
  exact getD_set_true (inv.closed j oj hj hl e he hb)
theorem wt_listed {hd : List Nat} {listed : Array Bool} {M : List Nat} (hM : certOk ops M = true) (inv : Inv ops hd listed) (h : Nat) : ∀ (t : Nat), t < ops.size → (M.getD t 0).testBit h = true →
  (listed.getD t false = true → listed.getD h false = true) ∧ (t ∈ Region.ready .any ops listed → listed.getD h false = true) := by
 intro t
 induction t using Nat.strongRecOn with
 | _ t ih =>
  intro ht hb
  have hc := List.all_eq_true.1 hM t (List.mem_range.2 ht)
  split at hc
  ·rename_i o ho
   have hu := Nat.eq_of_beq_eq_true hc
   have hb' : (uni M t o.after.toList).testBit h = true := by
    rw [← hu, Nat.testBit_or, hb, Bool.or_true]
   obtain ⟨e, he, hbi, hlt, hor⟩ := uni_bit hb'
   have he' : e ∈ o.after := by simpa using he
   have key : listed.getD e.on false = true → listed.getD h false = true := fun hl => by
    rcases hor with hor | hor
    ·rw [← hor]; exact hl
    ·exact (ih e.on hlt (by omega) hor).1 hl
   refine ⟨fun hl => key (inv.closed t o ho hl e he' hbi), fun hr => ?_⟩
   obtain ⟨_, o', ho', hall⟩ := mem_ready.1 hr
   have : o' = o := Option.some.inj (ho'.symm.trans ho)
   subst this
   exact key (hall e he' hbi)
  ·cases hc
def HL (P : Program) (ops : Array Oper) (Q : Exit → Act → World → Prop) (S : World → Prop) (hd : List Nat) (L : Array Bool → Act → World → Prop) : Nat → Array Bool → Act → World → Prop
 | 0, listed, a, w => L listed a w
 | f + 1, listed, a, w => Region.ready .any ops listed ≠ [] ∧
  ∀ i ∈ Region.ready .any ops listed, i ∈ hd ∧ wpOp P ops Q i (fun a' w' => S w' ∧ HL P ops Q S hd L f (listed.setIfInBounds i true) a' w') a w
theorem HL_any {S : World → Prop} {hd : List Nat} {g : Nat} {L : Array Bool → Act → World → Prop} (hL : ∀ listed a w, L listed a w → wpAny P .any ops Q g listed a w) :
  ∀ (f : Nat) (listed : Array Bool) (a : Act) (w : World), HL P ops Q S hd L f listed a w → wpAny P .any ops Q (f + g) listed a w
 | 0, listed, a, w, h => by rw [Nat.zero_add]; exact hL _ _ _ h
 | f + 1, listed, a, w, h => by
  rw [show f + 1 + g = (f + g) + 1 by omega]
  exact ⟨fun h0 => absurd h0 h.1, fun i hi => wpOp_mono (fun a' w' h' => HL_any hL f _ a' w' h'.2) (h.2 i hi).2⟩
theorem HL_first {M : List Nat} {S : World → Prop} {hd pre : List Nat} {L : Array Bool → Act → World → Prop} {i : Nat} {oi : Oper} {v : Value} (hi : ops[i]? = some oi)
  (hsel : Region.noSelect ops = true) (hQ : ∀ c a w, ¬ Q (.panic c) a w) (hin : i ∈ hd)
  (hM : certOk ops M = true) (hwt : ∀ t, t < ops.size → t ∉ hd → t ∉ pre → ∀ h ∈ hd, (M.getD t 0).testBit h = true)
  (hdone : ∀ listed a w, L listed a w → ∀ j ∈ Region.ready .any ops listed, j ∉ hd) :
  ∀ (f : Nat) (listed : Array Bool) (a : Act) (w : World), Inv ops pre listed →
   (∀ j oj, ops[j]? = some oj → j ≠ i → listed.getD j true = false → (∀ e ∈ oj.after, Region.binds .any e = true → e.on ≠ i) → oi.apart ops oj = true) →
   i ∈ Region.ready .any ops listed → YieldsIf P ops S oi v a → S w →
   HL P ops Q S hd L f (listed.setIfInBounds i true) (a.put oi.dst v) w → HL P ops Q S hd L (f + 1) listed a w := by
 have hsel' := Region.noSelect_spec hsel
 have heads : ∀ listed, Inv ops pre listed → i ∈ Region.ready .any ops listed → ∀ j ∈ Region.ready .any ops listed, j ∈ hd := by
  intro listed inv hr j hj
  by_cases hjd : j ∈ hd
  ·exact hjd
  ·obtain ⟨_, oj, hoj, _⟩ := mem_ready.1 hj
   have hjp : j ∉ pre := fun hp => by
    have h1 := inv.did j hp
    rw [getD_ft (mem_ready.1 hj).1] at h1
    cases h1
   have h1 := (wt_listed hM inv i j (Array.getElem?_eq_some_iff.1 hoj).1 (hwt j (Array.getElem?_eq_some_iff.1 hoj).1 hjd hjp i hin)).2 hj
   rw [getD_ft (mem_ready.1 hr).1] at h1
   cases h1
 intro f
 induction f with
 | zero =>
  intro listed a w inv _ hr hy hS H
  refine ⟨fun h => (by rw [h] at hr; cases hr), fun j hj => ⟨heads listed inv hr j hj, ?_⟩⟩
  by_cases hji : j = i
  ·subst hji; exact hy.wpOp hi hS ⟨hS, H⟩
  ·exact absurd (heads listed inv hr j hj) (hdone _ _ _ H j (ready_mono hj hji))
 | succ f ih =>
  intro listed a w inv hfree hr hy hS H
  refine ⟨fun h => (by rw [h] at hr; cases hr), fun j hj => ⟨heads listed inv hr j hj, ?_⟩⟩
  by_cases hji : j = i
  ·subst hji; exact hy.wpOp hi hS ⟨hS, H⟩
  ·have h1 := (H.2 j (ready_mono hj hji)).2
   obtain ⟨hjun, oj, hoj, hall⟩ := mem_ready.1 hj
   have hnot : ∀ e ∈ oj.after, Region.binds .any e = true → e.on ≠ i := fun e he hb heq => by
    have h1 := hall e he hb
    rw [heq, getD_ft (mem_ready.1 hr).1] at h1
    cases h1
   have h2 := wpOp_putIf hoj (hfree j oj hoj hji hjun hnot) (fun cs b => hsel' i oi cs b hi) (fun cs b => hsel' j oj cs b hoj)
    (fun c a w hh => absurd hh (hQ _ _ _)) hy h1
   have hfree' : ∀ k ok, ops[k]? = some ok → k ≠ i → (listed.setIfInBounds j true).getD k true = false →
     (∀ e ∈ ok.after, Region.binds .any e = true → e.on ≠ i) → oi.apart ops ok = true := fun k ok hk hki hun hno => by
    refine hfree k ok hk hki ?_ hno
    by_cases hjk : j = k
    ·subst hjk; exact hjun
    ·rw [getD_set_ne true hjk] at hun; exact hun
   refine wpOp_mono (fun a' w' h3 => ⟨h3.2.1, ih (listed.setIfInBounds j true) a' w' (inv.set hj) hfree' (ready_mono hr (Ne.symm hji)) h3.1 h3.2.1 ?_⟩) h2
   rw [Array.setIfInBounds_comm _ _ hji]
   exact h3.2.2
theorem drawA_sound {M : List Nat} {S : World → Prop} {rd : Addr → Value → Prop} {hd pre : List Nat} {B : List DI} {K : Fr → World → Prop} {L : Array Bool → Act → World → Prop}
  (hrd : ∀ a v, rd a v → ∀ w, S w → w.cell? a = some v) (hs : Region.noSelect ops = true) (hQ : ∀ c a w, ¬ Q (.panic c) a w)
  (hM : certOk ops M = true) (hwt : ∀ t, t < ops.size → t ∉ hd → t ∉ pre → ∀ h ∈ hd, (M.getD t 0).testBit h = true)
  (hL : ∀ listed a w, L listed a w ↔ (∃ σ, a = act ds n σ ∧ K σ w) ∧ (Region.ready .any ops listed).all (fun j => !hd.contains j) = true ∧ chkB ops B listed = true) :
  ∀ (l : List DI) (listed : Array Bool) (σ : Fr) (w : World), Inv ops pre listed → chkA ops hd B l listed = true → S w → drawA P hT n ops S rd l σ K w →
   HL P ops Q S hd L l.length listed (act ds n σ) w
 | [], listed, σ, w, inv, hc, hS, h => by
  simp only [chkA, Bool.and_eq_true] at hc
  exact (hL _ _ _).2 ⟨⟨σ, rfl, h⟩, hc.1, hc.2⟩
 | .fst i :: r, listed, σ, w, inv, hc, hS, h => by
  simp only [chkA, stepOk, DI.ix, Bool.and_eq_true] at hc
  obtain ⟨⟨hin, hr, hf⟩, hc⟩ := hc
  simp only [drawA] at h
  split at h
  ·rename_i o ho
   obtain ⟨v, hy, h⟩ := fstW_sound hrd h
   have hr' : i ∈ Region.ready .any ops listed := by simpa using hr
   refine HL_first ho hs hQ (by simpa using hin) hM hwt (fun listed a w h j hj => ?_) r.length listed _ w inv (Region.free_spec ho hf) hr' hy hS ?_
   ·have := List.all_eq_true.1 ((hL _ _ _).1 h).2.1 j hj
    simpa using this
   ·rw [act_put]; exact drawA_sound hrd hs hQ hM hwt hL r _ _ w (inv.set hr') hc hS h
  ·exact h.elim
 | .eff i :: r, listed, σ, w, inv, hc, hS, h => by
  simp only [chkA, DI.ix, Bool.and_eq_true] at hc
  obtain ⟨⟨hin, hr⟩, hc⟩ := hc
  simp only [drawA] at h
  split at h
  ·rename_i o ho
   have hre := stepOk_eff hr
   refine ⟨by rw [hre]; simp, fun j hj => ?_⟩
   obtain rfl : j = i := by rw [hre] at hj; simpa using hj
   refine ⟨by simpa using hin, effW_sound ho (fun σ' w' h' => ⟨h'.1, ?_⟩) h⟩
   exact drawA_sound hrd hs hQ hM hwt hL r _ σ' w' (inv.set hj) hc h'.1 h'.2
  ·exact h.elim
theorem draw_sound {id : Nat} {S : World → Prop} {rd : Addr → Value → Prop} {A B : List DI} {K : Fr → World → Prop} {σ : Fr} {w : World}
  (hm : P.follows .mixedOrders = true) (hc : chkD ops A B = true) (hQ : ∀ c a w, ¬ Q (.panic c) a w) (hK : ∀ σ w, K σ w → Q .normal (act ds n σ) w)
  (hrd : ∀ a v, rd a v → ∀ w, S w → w.cell? a = some v) (hS : S w.drew)
  (h : drawA P hT n ops S rd A σ (fun σ w => drawB P hT n ops B σ K w) w.drew) : (Code.region id ops true).wp P Q (act ds n σ) w := by
 simp only [chkD, Bool.and_eq_true, beq_iff_eq] at hc
 obtain ⟨⟨⟨⟨hs, hlen⟩, hM⟩, hwt⟩, hc⟩ := hc
 have hwt' : ∀ t, t < ops.size → t ∉ A.map DI.ix → t ∉ ([] : List Nat) → ∀ h ∈ A.map DI.ix, ((masks ops.toList []).getD t 0).testBit h = true := by
  intro t ht htn _ x hx
  have h1 := List.all_eq_true.1 hwt t (List.mem_range.2 ht)
  simp only [Bool.or_eq_true, List.contains_iff_mem] at h1
  rcases h1 with h1 | h1
  ·exact absurd h1 htn
  ·exact List.all_eq_true.1 h1 x hx
 refine wp_region_any hm ?_
 have inv0 : Inv ops [] (Array.replicate ops.size false) := by
  refine ⟨by simp, (fun p hp => by simp at hp), fun j oj hj hl => ?_⟩
  rw [Array.getD_eq_getD_getElem?] at hl
  rcases Nat.lt_or_ge j ops.size with h' | h'
  ·simp [h'] at hl
  ·simp [h'] at hl
 have H := drawA_sound (P := P) (hT := hT) (n := n) (ops := ops) (Q := Q) (S := S) (rd := rd) (hd := A.map DI.ix) (B := B) (K := fun σ w => drawB P hT n ops B σ K w)
  (L := fun listed a w => (∃ σ, a = act ds n σ ∧ drawB P hT n ops B σ K w) ∧ (Region.ready .any ops listed).all (fun j => !(A.map DI.ix).contains j) = true ∧ chkB ops B listed = true)
  hrd hs hQ hM hwt' (fun _ _ _ => Iff.rfl) A (Array.replicate ops.size false) σ w.drew inv0 hc hS h
 have := HL_any (P := P) (Q := Q) (g := B.length) (fun listed a w ⟨⟨σ, ha, hb⟩, _, hcB⟩ => by
  subst ha; exact drawB_sound hs hQ hK B listed σ w hcB hb) _ _ _ _ H
 rw [hlen] at this
 exact this
end
def drawP (P : Program) (hT : Hint) (n : Nat) (ops : Array Oper) : List Nat → Fr → (Fr → Prop) → Prop
 | [], σ, K => K σ
 | i :: r, σ, K => match ops[i]? with
  | some o => fstW P hT n ops o σ (fun _ _ => False) fun σ' => drawP P hT n ops r σ' K
  | none => False
def chkP (ops : Array Oper) : List Nat → Array Bool → (Array Bool → Bool) → Bool
 | [], l, k => k l
 | i :: r, l, k => stepOk ops (.fst i) l && chkP ops r (l.setIfInBounds i true) k
def chkDP (ops : Array Oper) (A0 : List Nat) (A B : List DI) : Bool :=
 Region.noSelect ops && (A0.length + (A.length + B.length) == ops.size) &&
 certOk ops (masks ops.toList []) &&
 (List.range ops.size).all (fun t => A0.contains t || (A.map DI.ix).contains t || (A.map DI.ix).all fun h => ((masks ops.toList []).getD t 0).testBit h) &&
 chkP ops A0 (Array.replicate ops.size false) (fun l => A0.all (fun p => l.getD p false) && chkA ops (A.map DI.ix) B A l)
section
variable {P : Program} {hT : Hint} {n : Nat} {ops : Array Oper} {Q : Exit → Act → World → Prop}
theorem drawP_sound {K : Fr → Prop} {w : World} {g : Nat} {k : Array Bool → Bool} (hs : Region.noSelect ops = true) (hQ : ∀ c a w, ¬ Q (.panic c) a w)
  (hK : ∀ σ listed, K σ → Inv ops [] listed → k listed = true → wpAny P .any ops Q g listed (act ds n σ) w) :
  ∀ (l : List Nat) (listed : Array Bool) (σ : Fr), Inv ops [] listed → chkP ops l listed k = true → drawP P hT n ops l σ K → wpAny P .any ops Q (l.length + g) listed (act ds n σ) w
 | [], listed, σ, inv, hc, h => by
  rw [List.length_nil, Nat.zero_add]
  exact hK σ listed h inv hc
 | i :: r, listed, σ, inv, hc, h => by
  simp only [chkP, stepOk, Bool.and_eq_true] at hc
  obtain ⟨⟨hr, hf⟩, hc⟩ := hc
  simp only [drawP] at h
  split at h
  ·rename_i o ho
   obtain ⟨v, hy, h⟩ := fstW_sound (S := fun _ => True) (fun a v h => h.elim) h
   have e : (i :: r).length + g = r.length + g + 1 := by simp; omega
   rw [e]
   refine wpAny_take ho hs hf hr (fun c a w hh => absurd hh (hQ _ _ _)) ?_ ?_ (v := v)
   ·exact hy.imp (fun ⟨a, b⟩ => ⟨a, fun w => b w trivial⟩) id
   ·rw [act_put]; exact drawP_sound hs hQ hK r _ _ (inv.set (by simpa using hr)) hc h
  ·exact h.elim
theorem drawpre_sound {id : Nat} {S : World → Prop} {rd : Addr → Value → Prop} {A0 : List Nat} {A B : List DI} {K : Fr → World → Prop} {σ : Fr} {w : World}
  (hm : P.follows .mixedOrders = true) (hc : chkDP ops A0 A B = true) (hQ : ∀ c a w, ¬ Q (.panic c) a w) (hK : ∀ σ w, K σ w → Q .normal (act ds n σ) w)
  (hrd : ∀ a v, rd a v → ∀ w, S w → w.cell? a = some v) (hS : S w.drew)
  (h : drawP P hT n ops A0 σ fun σ => drawA P hT n ops S rd A σ (fun σ w => drawB P hT n ops B σ K w) w.drew) : (Code.region id ops true).wp P Q (act ds n σ) w := by
 simp only [chkDP, Bool.and_eq_true, beq_iff_eq] at hc
 obtain ⟨⟨⟨⟨hs, hlen⟩, hM⟩, hwt⟩, hc⟩ := hc
 have hwt' : ∀ t, t < ops.size → t ∉ A.map DI.ix → t ∉ A0 → ∀ h ∈ A.map DI.ix, ((masks ops.toList []).getD t 0).testBit h = true := by
  intro t ht htn htp x hx
  have h1 := List.all_eq_true.1 hwt t (List.mem_range.2 ht)
  simp only [Bool.or_eq_true, List.contains_iff_mem] at h1
  rcases h1 with (h1 | h1) | h1
  ·exact absurd h1 htp
  ·exact absurd h1 htn
  ·exact List.all_eq_true.1 h1 x hx
 refine wp_region_any hm ?_
 have inv0 : Inv ops [] (Array.replicate ops.size false) := by
  refine ⟨by simp, (fun p hp => by simp at hp), fun j oj hj hl => ?_⟩
  rw [Array.getD_eq_getD_getElem?] at hl
  rcases Nat.lt_or_ge j ops.size with h' | h'
  ·simp [h'] at hl
  ·simp [h'] at hl
 have hfin := drawP_sound (ds := ds) (Q := Q) (g := A.length + B.length) (w := w.drew) hs hQ (fun σ' listed h' inv hk => ?_) A0 _ σ inv0 hc h
 ·rw [hlen] at hfin; exact hfin
 simp only [Bool.and_eq_true] at hk
 have inv1 : Inv ops A0 listed := ⟨inv.size, fun p hp => List.all_eq_true.1 hk.1 p hp, inv.closed⟩
 have H := drawA_sound (P := P) (hT := hT) (n := n) (ops := ops) (Q := Q) (S := S) (rd := rd) (hd := A.map DI.ix) (B := B) (K := fun σ w => drawB P hT n ops B σ K w)
  (L := fun listed a w => (∃ σ, a = act ds n σ ∧ drawB P hT n ops B σ K w) ∧ (Region.ready .any ops listed).all (fun j => !(A.map DI.ix).contains j) = true ∧ chkB ops B listed = true)
  hrd hs hQ hM hwt' (fun _ _ _ => Iff.rfl) A listed σ' w.drew inv1 hk.2 hS h'
 exact HL_any (P := P) (Q := Q) (g := B.length) (fun listed a w ⟨⟨σ, ha, hb⟩, _, hcB⟩ => by
  subst ha; exact drawB_sound hs hQ hK B listed σ w hcB hb) _ _ _ _ H
end
def gInt (k : IntKind) (v : Value) (K : Int → Prop) : Prop := match v with | .int k' x => (match decide (k' = k) with | true => K x | false => False) | _ => False
def gBool (v : Value) (K : Bool → Prop) : Prop := match v with | .bool x => K x | _ => False
def gStr (v : Value) (K : ByteArray → Prop) : Prop := match v with | .string x => K x | _ => False
def gPtr (v : Value) (K : Option Addr → Prop) : Prop := match v with | .pointer x => K x | _ => False
def gAd (v : Value) (K : Addr → Prop) : Prop := match v with | .pointer (some x) => K x | _ => False
def gSlice (v : Value) (K : Option Addr → Nat → Nat → Prop) : Prop := match v with | .slice A n c => K A n c | _ => False
def gMap (v : Value) (K : Option Nat → Prop) : Prop := match v with | .map x => K x | _ => False
def gFlt (k : FloatKind) (v : Value) (K : Nat → Prop) : Prop := match v with | .float k' x => (match decide (k' = k) with | true => K x | false => False) | _ => False
def gAgg (v : Value) (K : List Value → Prop) : Prop := match v with | .agg ⟨l⟩ => K l | _ => False
def gCons (l : List Value) (K : Value → List Value → Prop) : Prop := match l with | v :: r => K v r | [] => False
def gNil (l : List Value) (K : Prop) : Prop := match l with | [] => K | _ => False
theorem gInt_elim {k : IntKind} {v : Value} {K : Int → Prop} (h : gInt k v K) : ∃ x, v = .int k x ∧ K x := by
 unfold gInt at h
 split at h
 ·rename_i k' x
  split at h
  ·rename_i e; have e' := of_decide_eq_true e; subst e'; exact ⟨x, rfl, h⟩
  ·exact h.elim
 ·exact h.elim
theorem gBool_elim {v : Value} {K : Bool → Prop} (h : gBool v K) : ∃ x, v = .bool x ∧ K x := by
 unfold gBool at h; split at h
 ·exact ⟨_, rfl, h⟩
 ·exact h.elim
theorem gStr_elim {v : Value} {K : ByteArray → Prop} (h : gStr v K) : ∃ x, v = .string x ∧ K x := by
 unfold gStr at h; split at h
 ·exact ⟨_, rfl, h⟩
 ·exact h.elim
theorem gPtr_elim {v : Value} {K : Option Addr → Prop} (h : gPtr v K) : ∃ x, v = .pointer x ∧ K x := by
 unfold gPtr at h; split at h
 ·exact ⟨_, rfl, h⟩
 ·exact h.elim
theorem gAd_elim {v : Value} {K : Addr → Prop} (h : gAd v K) : ∃ x, v = .pointer (some x) ∧ K x := by
 unfold gAd at h; split at h
 ·exact ⟨_, rfl, h⟩
 ·exact h.elim
theorem gSlice_elim {v : Value} {K : Option Addr → Nat → Nat → Prop} (h : gSlice v K) : ∃ A n c, v = .slice A n c ∧ K A n c := by
 unfold gSlice at h; split at h
 ·exact ⟨_, _, _, rfl, h⟩
 ·exact h.elim
theorem gMap_elim {v : Value} {K : Option Nat → Prop} (h : gMap v K) : ∃ x, v = .map x ∧ K x := by
 unfold gMap at h; split at h
 ·exact ⟨_, rfl, h⟩
 ·exact h.elim
theorem gFlt_elim {k : FloatKind} {v : Value} {K : Nat → Prop} (h : gFlt k v K) : ∃ x, v = .float k x ∧ K x := by
 unfold gFlt at h
 split at h
 ·split at h
  ·rename_i e; have e' := of_decide_eq_true e; subst e'; exact ⟨_, rfl, h⟩
  ·exact h.elim
 ·exact h.elim
theorem gAgg_elim {v : Value} {K : List Value → Prop} (h : gAgg v K) : ∃ l, v = .agg ⟨l⟩ ∧ K l := by
 unfold gAgg at h; split at h
 ·exact ⟨_, rfl, h⟩
 ·exact h.elim
theorem gCons_elim {l : List Value} {K : Value → List Value → Prop} (h : gCons l K) : ∃ v r, l = v :: r ∧ K v r := by
 unfold gCons at h; split at h
 ·exact ⟨_, _, rfl, h⟩
 ·exact h.elim
theorem gNil_elim {l : List Value} {K : Prop} (h : gNil l K) : l = [] ∧ K := by
 unfold gNil at h; split at h
 ·exact ⟨rfl, h⟩
 ·exact h.elim
def ov (d : Fr) (l : List (Nat × Value)) : Fr := match l with
 | [] => d
 | (t, v) :: r => up (ov d r) t v
theorem ov_self {σ : Fr} : ∀ {l : List (Nat × Value)}, (∀ x ∈ l, σ x.1 = x.2) → ov σ l = σ
 | [], _ => rfl
 | (t, v) :: r, h => by
  show up (ov σ r) t v = σ
  rw [ov_self (fun x hx => h x (List.mem_cons_of_mem _ hx))]
  exact up_self (h (t, v) List.mem_cons_self)
theorem opK_form {P : Program} {hT : Hint} {n : Nat} {o : Oper} {σ : Fr} {K : Fr → World → Prop} {next : Act → World → Prop} {Q : Exit → Act → World → Prop}
  {w : World} {x : Next} {w' : World} (hK : ∀ v w', K (putO σ o.dst v) w' → next (act ds n (putO σ o.dst v)) w') (hr : (execOp (ev n σ) o).run P w = .ok x w') (h : opK P hT o σ K x w') :
  o.wp P (act ds n σ) w next Q := by
 unfold Oper.wp
 rw [act_eval, hr]
 cases x <;> simp only [opK] at h
 case value v => simp only [Oper.upon]; rw [act_put]; exact hK _ _ h
 case skip => simp only [Oper.upon]; rw [act_put]; exact hK _ _ h
 case enter f args =>
  simp only [Oper.upon]
  refine h.mono ?_
  intro e w'' he
  obtain ⟨v, rfl, hk⟩ := bindRet_elim he
  show next ((act ds n σ).put o.dst v) w''
  rw [act_put]; exact hK _ _ hk
theorem opW_form {P : Program} {hT : Hint} {n : Nat} {o : Oper} {σ : Fr} {K : Fr → World → Prop} {next : Act → World → Prop} {Q : Exit → Act → World → Prop}
  {w : World} (hK : ∀ v w', K (putO σ o.dst v) w' → next (act ds n (putO σ o.dst v)) w') (h : opW P hT n o σ K w) : o.wp P (act ds n σ) w next Q := by
 unfold opW at h
 split at h
 ·obtain ⟨v, hv, hk⟩ := spW_sound h
  unfold Oper.wp
  rw [act_eval, hv w]
  simp only [Oper.upon]; rw [act_put]; exact hK _ _ hk
 ·split at h
  ·rename_i s hs
   obtain ⟨v, w', hr, hk⟩ := h
   obtain ⟨v', rfl, hk⟩ := bindRet_elim hk
   unfold Oper.wp
   rw [act_eval, rawV_run hs, goes hr]
   show next ((act ds n σ).put o.dst v) w'
   rw [act_put]; exact hK _ _ hk
  ·split at h
   ·rename_i s hs
    obtain ⟨v, w', hr, hk⟩ := h
    unfold Oper.wp
    rw [act_eval, rawU_run hs, goes hr]
    show next ((act ds n σ).put o.dst undef) w'
    rw [act_put]; exact hK _ _ hk
   ·split at h
    ·rename_i s hs
     obtain ⟨x, w', hr, hk⟩ := h
     obtain ⟨v, hx, hk2⟩ := bindRet_elim hk
     subst hx
     unfold Oper.wp
     rw [act_eval, rawX_run hs, hr]
     simp only [Oper.upon]; rw [act_put]; exact hK _ _ hk2
    ·obtain ⟨x, w', hr, hk⟩ := wpS_run _ _ _ _ _ h
     exact opK_form hK hr hk
theorem effW_form {P : Program} {hT : Hint} {n : Nat} {ops : Array Oper} {o : Oper} {i : Nat} {σ : Fr} {K : Fr → World → Prop} {w : World} {Q : Exit → Act → World → Prop} {K' : Act → World → Prop}
  (hi : ops[i]? = some o) (hK : ∀ v w', K (putO σ o.dst v) w' → K' (act ds n (putO σ o.dst v)) w') (h : effW P hT n ops o σ K w) : wpOp P ops Q i K' (act ds n σ) w := by
 unfold wpOp
 simp only [hi]
 rcases guardW_sound h with ⟨hw, h⟩ | ⟨hw, h⟩
 ·rw [if_pos hw]; exact .inl (opW_form hK h)
 ·rw [if_neg (by rw [hw]; exact Bool.false_ne_true), act_put]; exact hK _ _ h
inductive S0 where
 | int (k : IntKind) | bool | str | ptr | ad | slice | map | flt (k : FloatKind) | any
inductive S1 where
 | sc (s : S0) | agg (l : List S0)
inductive OS where
 | one (s : S1) | tup (l : List S1)
def all0 : S0 → (Value → Prop) → Prop
 | .int k, K => ∀ x : Int, K (.int k x)
 | .bool, K => ∀ b : Bool, K (.bool b)
 | .str, K => ∀ s : ByteArray, K (.string s)
 | .ptr, K => ∀ p : Option Addr, K (.pointer p)
 | .ad, K => ∀ a : Addr, K (.pointer (some a))
 | .slice, K => ∀ (A : Option Addr) (n c : Nat), K (.slice A n c)
 | .map, K => ∀ m : Option Nat, K (.map m)
 | .flt k, K => ∀ x : Nat, K (.float k x)
 | .any, K => ∀ v : Value, K v
def q0 : S0 → Value → Prop → Prop
 | .int k, v, X => gInt k v fun _ => X
 | .bool, v, X => gBool v fun _ => X
 | .str, v, X => gStr v fun _ => X
 | .ptr, v, X => gPtr v fun _ => X
 | .ad, v, X => gAd v fun _ => X
 | .slice, v, X => gSlice v fun _ _ _ => X
 | .map, v, X => gMap v fun _ => X
 | .flt k, v, X => gFlt k v fun _ => X
 | .any, _, X => X
theorem q0_elim {s : S0} {v : Value} {X : Prop} (h : q0 s v X) : X ∧ ∀ K : Value → Prop, all0 s K → K v := by
 cases s <;> simp only [q0] at h
 case int => obtain ⟨x, e, h'⟩ := gInt_elim h; subst e; exact ⟨h', fun K k => k x⟩
 case bool => obtain ⟨x, rfl, h⟩ := gBool_elim h; exact ⟨h, fun K k => k x⟩
 case str => obtain ⟨x, rfl, h⟩ := gStr_elim h; exact ⟨h, fun K k => k x⟩
 case ptr => obtain ⟨x, rfl, h⟩ := gPtr_elim h; exact ⟨h, fun K k => k x⟩
 case ad => obtain ⟨x, rfl, h⟩ := gAd_elim h; exact ⟨h, fun K k => k x⟩
 case slice => obtain ⟨A, n, c, rfl, h⟩ := gSlice_elim h; exact ⟨h, fun K k => k A n c⟩
 case map => obtain ⟨x, rfl, h⟩ := gMap_elim h; exact ⟨h, fun K k => k x⟩
 case flt => obtain ⟨x, e, h'⟩ := gFlt_elim h; subst e; exact ⟨h', fun K k => k x⟩
 case any => exact ⟨h, fun K k => k v⟩
def all0s : List S0 → (List Value → Prop) → Prop
 | [], K => K []
 | s :: r, K => all0 s fun v => all0s r fun vs => K (v :: vs)
def q0s : List S0 → List Value → Prop → Prop
 | [], [], X => X
 | s :: r, v :: vs, X => q0 s v (q0s r vs X)
 | _, _, _ => False
theorem q0s_elim : ∀ {l : List S0} {vs : List Value} {X : Prop}, q0s l vs X → X ∧ ∀ K : List Value → Prop, all0s l K → K vs
 | [], [], X, h => ⟨h, fun K k => k⟩
 | s :: r, v :: vs, X, h => by
  obtain ⟨h1, k1⟩ := q0_elim h
  obtain ⟨h2, k2⟩ := q0s_elim h1
  exact ⟨h2, fun K k => k2 _ (k1 _ k)⟩
 | [], _ :: _, X, h => h.elim
 | _ :: _, [], X, h => h.elim
def all1 : S1 → (Value → Prop) → Prop
 | .sc s, K => all0 s K
 | .agg l, K => all0s l fun vs => K (.agg ⟨vs⟩)
def q1 : S1 → Value → Prop → Prop
 | .sc s, v, X => q0 s v X
 | .agg l, .agg ⟨vs⟩, X => q0s l vs X
 | .agg _, _, _ => False
theorem q1_elim {s : S1} {v : Value} {X : Prop} (h : q1 s v X) : X ∧ ∀ K : Value → Prop, all1 s K → K v := by
 cases s with
 | sc s => exact q0_elim h
 | agg l =>
  cases v <;> try exact h.elim
  case agg a => obtain ⟨vs⟩ := a; obtain ⟨h1, k1⟩ := q0s_elim h; exact ⟨h1, fun K k => k1 _ k⟩
def all1s : List S1 → (List Value → Prop) → Prop
 | [], K => K []
 | s :: r, K => all1 s fun v => all1s r fun vs => K (v :: vs)
def q1s : List S1 → List Value → Prop → Prop
 | [], [], X => X
 | s :: r, v :: vs, X => q1 s v (q1s r vs X)
 | _, _, _ => False
theorem q1s_elim : ∀ {l : List S1} {vs : List Value} {X : Prop}, q1s l vs X → X ∧ ∀ K : List Value → Prop, all1s l K → K vs
 | [], [], X, h => ⟨h, fun K k => k⟩
 | s :: r, v :: vs, X, h => by
  obtain ⟨h1, k1⟩ := q1_elim h
  obtain ⟨h2, k2⟩ := q1s_elim h1
  exact ⟨h2, fun K k => k2 _ (k1 _ k)⟩
 | [], _ :: _, X, h => h.elim
 | _ :: _, [], X, h => h.elim
def allO : OS → (Value → Prop) → Prop
 | .one s, K => all1 s K
 | .tup l, K => all1s l fun vs => K (.tuple ⟨vs⟩)
def qO : OS → Value → Prop → Prop
 | .one s, v, X => q1 s v X
 | .tup l, .tuple ⟨vs⟩, X => q1s l vs X
 | .tup _, _, _ => False
theorem qO_elim {s : OS} {v : Value} {X : Prop} (h : qO s v X) : X ∧ ∀ K : Value → Prop, allO s K → K v := by
 cases s with
 | one s => exact q1_elim h
 | tup l =>
  cases v <;> try exact h.elim
  case tuple a => obtain ⟨vs⟩ := a; obtain ⟨h1, k1⟩ := q1s_elim h; exact ⟨h1, fun K k => k1 _ k⟩
structure OI where
 eff : Bool
 dep : List Nat
 src : List Nat
 val : List Value → List Value → Value
structure OD where
 pre : List Nat
 effs : List Nat
 op : Nat → OI
 sh : Nat → OS
def look : List Nat → List Value → Nat → Value
 | j :: r, v :: vs, k => match Nat.beq j k with
  | true => v
  | false => look r vs k
 | _, _, _ => undef
theorem look_map {vv : Nat → Value} {k : Nat} : ∀ {l : List Nat}, k ∈ l → look l (l.map vv) k = vv k
 | j :: r, h => by
  simp only [List.map_cons, look]
  by_cases e : j = k
  ·subst e; rw [Nat.beq_refl]
  ·rw [nbeq_false e]
   rcases List.mem_cons.1 h with rfl | h
   ·exact absurd rfl e
   ·exact look_map h
def oval (d : OD) (σ0 : Fr) (vv : Nat → Value) (i : Nat) : Value := match (d.op i).eff with
 | true => vv i
 | false => (d.op i).val (d.pre.map σ0) ((d.op i).dep.map vv)
def oslots (d : OD) (ops : Array Oper) (σ0 : Fr) (vv : Nat → Value) : List Nat → List (Nat × Value)
 | [] => []
 | j :: r => match (ops[j]?).bind (·.dst) with
  | some t => (t, oval d σ0 vv j) :: oslots d ops σ0 vv r
  | none => oslots d ops σ0 vv r
def opre (σ0 : Fr) : List Nat → List (Nat × Value)
 | [] => []
 | t :: r => (t, σ0 t) :: opre σ0 r
def preAt (ops : Array Oper) (d : OD) (i : Nat) : List Nat := d.pre.filter fun t => (List.range ops.size).all fun k => match (ops[k]?).bind (·.dst) with
 | some s => (match Nat.beq s t with
  | false => true
  | true => ((masks ops.toList []).getD k 0).testBit i)
 | none => true
def dstv (o : Oper) (σ : Fr) : Value := match o.dst with
 | some t => σ t
 | none => .tuple #[]
def allE (sh : Nat → OS) (Φ : Nat → Value → World → Prop) (w : World) : List Nat → (List Value → Prop) → Prop
 | [], K => K []
 | j :: r, K => allO (sh j) fun v => Φ j v w → allE sh Φ w r fun vs => K (v :: vs)
theorem allE_elim {sh : Nat → OS} {Φ : Nat → Value → World → Prop} {w : World} {vv : Nat → Value} : ∀ {l : List Nat} {K : List Value → Prop}, (∀ j ∈ l, Φ j (vv j) w ∧ ∀ K : Value → Prop, allO (sh j) K → K (vv j)) → allE sh Φ w l K → K (l.map vv)
 | [], K, _, h => h
 | j :: r, K, hj, h => by
  obtain ⟨h1, h2⟩ := hj j List.mem_cons_self
  exact allE_elim (l := r) (K := fun vs => K (vv j :: vs)) (fun k hk => hj k (List.mem_cons_of_mem _ hk)) (h2 _ h h1)
section
variable (P : Program) (hT : Hint) (n : Nat) (ops : Array Oper) (d : OD) (σ0 : Fr) (w0 : World) (G : World → World → Prop) (Φ : Nat → Value → World → Prop)
def oblE (i : Nat) : Prop := match ops[i]? with
 | some o => ∀ (f : Fr) (w : World), G w0 w → allE d.sh Φ w (d.op i).dep fun vs =>
   effW P hT n ops o (ov f (opre σ0 (preAt ops d i) ++ oslots d ops σ0 (look (d.op i).dep vs) (d.op i).src)) (fun σ' w' => qO (d.sh i) (dstv o σ') (G w w' ∧ Φ i (dstv o σ') w')) w
 | none => False
def oblEs : List Nat → Prop
 | [] => True
 | i :: r => oblE P hT n ops d σ0 w0 G Φ i ∧ oblEs r
def allS (sh : Nat → OS) : List Nat → (List Value → Prop) → Prop
 | [], K => K []
 | j :: r, K => allO (sh j) fun v => allS sh r fun vs => K (v :: vs)
def hidP (i : Nat) : Prop := match ops[i]? with
 | some o => ∀ (f : Fr) (w : World), allS d.sh (d.op i).dep fun vs =>
   effW P hT n ops o (ov f (opre σ0 (preAt ops d i) ++ oslots d ops σ0 (look (d.op i).dep vs) (d.op i).src)) (fun σ' w' => w' = w ∧ dstv o σ' = (d.op i).val (d.pre.map σ0) vs) w
 | none => False
def hidPs : List Nat → Prop
 | [] => True
 | i :: r => (match (d.op i).eff with
  | true => hidPs r
  | false => hidP P hT n ops d σ0 i ∧ hidPs r)
def openW (K : Fr → World → Prop) (w : World) : Prop := hidPs P hT n ops d σ0 (List.range ops.size) ∧ ∃ (G : World → World → Prop) (Φ : Nat → Value → World → Prop), (∀ w, G w w) ∧ (∀ a b c, G a b → G b c → G a c) ∧ (∀ i v a b, G w a → G a b → Φ i v a → Φ i v b) ∧
 oblEs P hT n ops d σ0 w G Φ d.effs ∧ ∀ w', G w w' → allE d.sh Φ w' d.effs fun vs => K (ov σ0 (oslots d ops σ0 (look d.effs vs) (List.range ops.size))) w'
end
theorem allS_elim {sh : Nat → OS} {vv : Nat → Value} : ∀ {l : List Nat} {K : List Value → Prop}, (∀ j ∈ l, ∀ K : Value → Prop, allO (sh j) K → K (vv j)) → allS sh l K → K (l.map vv)
 | [], K, _, h => h
 | j :: r, K, hj, h => by
  exact allS_elim (l := r) (K := fun vs => K (vv j :: vs)) (fun k hk => hj k (List.mem_cons_of_mem _ hk)) (hj j List.mem_cons_self _ h)
def chkO (ops : Array Oper) (d : OD) : Bool :=
 Region.noSelect ops && certOk ops (masks ops.toList []) &&
 (List.range ops.size).all (fun i => match ops[i]? with
  | some o => o.after.toList.all (fun e => !Region.binds .any e || Nat.blt e.on i) &&
    (d.op i).dep.all (fun j => ((masks ops.toList []).getD i 0).testBit j && (d.op j).eff && Nat.blt j ops.size) &&
    (d.op i).src.all (fun j => ((masks ops.toList []).getD i 0).testBit j && Nat.blt j ops.size && (match (d.op j).eff with | true => (d.op i).dep.contains j | false => (d.op j).dep.all fun k => (d.op i).dep.contains k)) &&
    (match (d.op i).eff with | true => d.effs.contains i | false => (d.op i).dep.all fun k => d.effs.contains k) &&
    (match o.dst with
     | some t => (List.range i).all fun j => match (ops[j]?).bind (·.dst) with | some s => !Nat.beq s t | none => true
     | none => true)
  | none => false) &&
 d.effs.all (fun i => (d.op i).eff && Nat.blt i ops.size)
structure OK (ops : Array Oper) (d : OD) : Prop where
 sel : Region.noSelect ops = true
 cert : certOk ops (masks ops.toList []) = true
 low : ∀ (i : Nat) (o : Oper), ops[i]? = some o → ∀ e ∈ o.after, Region.binds .any e = true → e.on < i
 depM : ∀ i, i < ops.size → ∀ j ∈ (d.op i).dep, ((masks ops.toList []).getD i 0).testBit j = true ∧ (d.op j).eff = true ∧ j < ops.size
 srcM : ∀ i, i < ops.size → ∀ j ∈ (d.op i).src, ((masks ops.toList []).getD i 0).testBit j = true ∧ j < ops.size ∧ ((d.op j).eff = true → j ∈ (d.op i).dep) ∧ ((d.op j).eff = false → ∀ k ∈ (d.op j).dep, k ∈ (d.op i).dep)
 effM : ∀ i, i < ops.size → ((d.op i).eff = true → i ∈ d.effs) ∧ ((d.op i).eff = false → ∀ k ∈ (d.op i).dep, k ∈ d.effs)
 dstM : ∀ (i j : Nat) (oi oj : Oper) (t : Nat), j < i → ops[i]? = some oi → ops[j]? = some oj → oi.dst = some t → oj.dst ≠ some t
 effs : ∀ i ∈ d.effs, (d.op i).eff = true ∧ i < ops.size
theorem hidPs_mem {P : Program} {hT : Hint} {n : Nat} {ops : Array Oper} {d : OD} {σ0 : Fr} : ∀ {l : List Nat}, hidPs P hT n ops d σ0 l → ∀ i ∈ l, (d.op i).eff = false → hidP P hT n ops d σ0 i
 | j :: r, h, i, hi, he => by
  unfold hidPs at h
  rcases List.mem_cons.1 hi with rfl | hi
  ·rw [he] at h; exact h.1
  ·split at h
   ·exact hidPs_mem h i hi he
   ·exact hidPs_mem h.2 i hi he
theorem oblEs_mem {P : Program} {hT : Hint} {n : Nat} {ops : Array Oper} {d : OD} {σ0 : Fr} {w0 : World} {G : World → World → Prop} {Φ : Nat → Value → World → Prop} : ∀ {l : List Nat}, oblEs P hT n ops d σ0 w0 G Φ l → ∀ i ∈ l, oblE P hT n ops d σ0 w0 G Φ i
 | j :: r, h, i, hi => by
  rcases List.mem_cons.1 hi with rfl | hi
  ·exact h.1
  ·exact oblEs_mem h.2 i hi
theorem ok_of {ops : Array Oper} {d : OD} (h : chkO ops d = true) : OK ops d := by
 simp only [chkO, Bool.and_eq_true] at h
 obtain ⟨⟨⟨h1, h2⟩, h3⟩, h4⟩ := h
 have h3 := List.all_eq_true.1 h3
 have h4 := List.all_eq_true.1 h4
 have row : ∀ i o, ops[i]? = some o → _ := fun i o ho => by
  have := h3 i (List.mem_range.2 (Array.getElem?_eq_some_iff.1 ho).1)
  rw [ho] at this
  simp only [Bool.and_eq_true] at this
  exact this
 have get : ∀ i, i < ops.size → ∃ o, ops[i]? = some o := fun i hi => ⟨_, Array.getElem?_eq_getElem hi⟩
 refine ⟨h1, h2, ?_, ?_, ?_, ?_, ?_, ?_⟩
 ·intro i o ho e he hb
  have := List.all_eq_true.1 (row i o ho).1.1.1.1 e (by simpa using he)
  rw [hb] at this
  simpa using this
 ·intro i hi j hj
  obtain ⟨o, ho⟩ := get i hi
  have := List.all_eq_true.1 (row i o ho).1.1.1.2 j hj
  simp only [Bool.and_eq_true] at this
  exact ⟨this.1.1, this.1.2, Nat.blt_eq.mp this.2⟩
 ·intro i hi j hj
  obtain ⟨o, ho⟩ := get i hi
  have := List.all_eq_true.1 (row i o ho).1.1.2 j hj
  simp only [Bool.and_eq_true] at this
  obtain ⟨⟨a, b⟩, c⟩ := this
  refine ⟨a, Nat.blt_eq.mp b, fun e => ?_, fun e => ?_⟩
  ·rw [e] at c; simpa using c
  ·rw [e] at c; intro k hk; simpa using List.all_eq_true.1 c k hk
 ·intro i hi
  obtain ⟨o, ho⟩ := get i hi
  have c := (row i o ho).1.2
  refine ⟨fun e => ?_, fun e => ?_⟩
  ·rw [e] at c; simpa using c
  ·rw [e] at c; intro k hk; simpa using List.all_eq_true.1 c k hk
 ·intro i j oi oj t hj hi hoj ht he
  have c := (row i oi hi).2
  rw [ht] at c
  have := List.all_eq_true.1 c j (List.mem_range.2 hj)
  rw [hoj] at this
  simp [he] at this
 ·intro i hi
  have := h4 i hi
  simp only [Bool.and_eq_true] at this
  exact ⟨this.1, Nat.blt_eq.mp this.2⟩
theorem filter_le {α : Type} {p q : α → Bool} (h : ∀ x, q x = true → p x = true) : ∀ l : List α, (l.filter q).length ≤ (l.filter p).length
 | [] => by simp
 | a :: l => by
  have ih := filter_le h l
  rw [List.filter_cons, List.filter_cons]
  by_cases hq : q a = true
  ·rw [if_pos hq, if_pos (h a hq)]; simp; exact ih
  ·rw [if_neg hq]; split
   ·simp; omega
   ·exact ih
theorem filter_lt {α : Type} {p q : α → Bool} (h : ∀ x, q x = true → p x = true) : ∀ {l : List α} {x : α}, x ∈ l → p x = true → q x = false → (l.filter q).length < (l.filter p).length
 | a :: l, x, hx, hp, hq => by
  have ih := filter_le h l
  rw [List.filter_cons, List.filter_cons]
  rcases List.mem_cons.1 hx with rfl | hx
  ·rw [if_neg (by rw [hq]; exact Bool.false_ne_true), if_pos hp]; simp; omega
  ·have ih := filter_lt h hx hp hq
   by_cases hqa : q a = true
   ·rw [if_pos hqa, if_pos (h a hqa)]; simp; exact ih
   ·rw [if_neg hqa]; split
    ·simp; omega
    ·exact ih
def left (ops : Array Oper) (listed : Array Bool) : Nat := ((List.range ops.size).filter fun i => !listed.getD i false).length
theorem left_set {ops : Array Oper} {listed : Array Bool} {i : Nat} (hs : listed.size = ops.size) (hi : i < ops.size) (hl : listed.getD i false = false) : left ops (listed.setIfInBounds i true) < left ops listed := by
 refine filter_lt (fun x hx => ?_) (List.mem_range.2 hi) (by simp only [hl]; rfl) ?_
 ·simp only [Bool.not_eq_true'] at hx ⊢
  cases h : listed.getD x false with
  | false => rfl
  | true => rw [getD_set_true h] at hx; cases hx
 ·have : (listed.setIfInBounds i true).getD i false = true := by simp [hs, hi]
  simp only [this]; rfl
theorem all_listed {ops : Array Oper} {d : OD} (ok : OK ops d) {listed : Array Bool} (hs : listed.size = ops.size) (hr : Region.ready .any ops listed = []) : ∀ i, i < ops.size → listed.getD i false = true := by
 intro i
 induction i using Nat.strongRecOn with
 | _ i ih =>
  intro hi
  cases h : listed.getD i false with
  | true => rfl
  | false =>
   have : i ∈ Region.ready .any ops listed := by
    refine mem_ready.2 ⟨?_, ops[i], Array.getElem?_eq_getElem hi, fun e he hb => ?_⟩
    ·have : i < listed.size := by omega
     simp [this] at h ⊢; exact h
    ·have := ok.low i _ (Array.getElem?_eq_getElem hi) e he hb
     exact ih e.on this (by omega)
   rw [hr] at this; cases this
theorem mem_opre {σ0 : Fr} {x : Nat × Value} : ∀ {l : List Nat}, x ∈ opre σ0 l → x.1 ∈ l ∧ x.2 = σ0 x.1
 | t :: r, h => by
  rcases List.mem_cons.1 h with rfl | h
  ·exact ⟨List.mem_cons_self, rfl⟩
  ·exact ⟨List.mem_cons_of_mem _ (mem_opre h).1, (mem_opre h).2⟩
theorem mem_oslots {d : OD} {ops : Array Oper} {σ0 : Fr} {vv : Nat → Value} {x : Nat × Value} : ∀ {l : List Nat}, x ∈ oslots d ops σ0 vv l → ∃ j ∈ l, ∃ o, ops[j]? = some o ∧ o.dst = some x.1 ∧ x.2 = oval d σ0 vv j
 | j :: r, h => by
  unfold oslots at h
  split at h
  ·rename_i t ht
   rcases List.mem_cons.1 h with rfl | h
   ·cases ho : ops[j]? with
    | none => rw [ho] at ht; cases ht
    | some o => rw [ho] at ht; exact ⟨j, List.mem_cons_self, o, ho, ht, rfl⟩
   ·obtain ⟨k, hk, r⟩ := mem_oslots h
    exact ⟨k, List.mem_cons_of_mem _ hk, r⟩
  ·obtain ⟨k, hk, r⟩ := mem_oslots h
   exact ⟨k, List.mem_cons_of_mem _ hk, r⟩
theorem preAt_mem {ops : Array Oper} {d : OD} {i t : Nat} (h : t ∈ preAt ops d i) {k : Nat} {o : Oper} (ho : ops[k]? = some o) (ht : o.dst = some t) : ((masks ops.toList []).getD k 0).testBit i = true := by
 have := List.all_eq_true.1 (List.mem_filter.1 h).2 k (List.mem_range.2 (Array.getElem?_eq_some_iff.1 ho).1)
 rw [ho] at this
 simp only [Option.bind_some, ht, Nat.beq_refl] at this
 exact this
structure St (ops : Array Oper) (d : OD) (σ0 : Fr) (w0 : World) (G : World → World → Prop) (Φ : Nat → Value → World → Prop) (listed : Array Bool) (vv : Nat → Value) (σ : Fr) (w : World) : Prop where
 a : ∀ (i : Nat) (o : Oper) (t : Nat), ops[i]? = some o → listed.getD i false = true → o.dst = some t → σ t = oval d σ0 vv i
 b : ∀ t : Nat, (∀ (i : Nat) (o : Oper), ops[i]? = some o → listed.getD i false = true → o.dst ≠ some t) → σ t = σ0 t
 c : ∀ i, i < ops.size → listed.getD i false = true → (d.op i).eff = true → Φ i (vv i) w ∧ ∀ K : Value → Prop, allO (d.sh i) K → K (vv i)
 g : G w0 w
theorem oval_look {ops : Array Oper} {d : OD} (ok : OK ops d) {σ0 : Fr} {vv : Nat → Value} {i j : Nat} (hi : i < ops.size) (hj : j ∈ (d.op i).src) :
  oval d σ0 (look (d.op i).dep ((d.op i).dep.map vv)) j = oval d σ0 vv j := by
 obtain ⟨_, hjs, h1, h2⟩ := ok.srcM i hi j hj
 unfold oval
 cases he : (d.op j).eff with
 | true => exact look_map (h1 he)
 | false => simp only; congr 1; exact List.map_congr_left fun k hk => look_map (h2 he k hk)
theorem St.frame {ops : Array Oper} {d : OD} {σ0 : Fr} {w0 : World} {G : World → World → Prop} {Φ : Nat → Value → World → Prop} {listed : Array Bool} {vv : Nat → Value} {σ : Fr} {w : World} (ok : OK ops d)
  (st : St ops d σ0 w0 G Φ listed vv σ w) (inv : Inv ops [] listed) {i : Nat} (hi : i < ops.size) (hr : i ∈ Region.ready .any ops listed) :
  ov σ (opre σ0 (preAt ops d i) ++ oslots d ops σ0 (look (d.op i).dep ((d.op i).dep.map vv)) (d.op i).src) = σ := by
 refine ov_self fun x hx => ?_
 rcases List.mem_append.1 hx with hx | hx
 ·obtain ⟨h1, h2⟩ := mem_opre hx
  rw [h2]
  refine st.b _ fun j o ho hl ht => ?_
  have q := preAt_mem h1 ho ht
  have := (wt_listed ok.cert inv i j (Array.getElem?_eq_some_iff.1 ho).1 q).1 hl
  obtain ⟨h0, _⟩ := mem_ready.1 hr
  rw [getD_ft h0] at this; cases this
 ·obtain ⟨j, hj, o, ho, ht, hv⟩ := mem_oslots hx
  rw [hv, oval_look ok hi hj]
  exact st.a j o _ ho ((wt_listed ok.cert inv j i hi (ok.srcM i hi j hj).1).2 hr) ht
theorem putO_dst {o : Oper} {σ : Fr} {v : Value} {t : Nat} (h : o.dst = some t) : putO σ o.dst v t = v := by
 rw [h]; show (bif Nat.beq t t then v else σ t) = v; rw [Nat.beq_refl]; rfl
theorem putO_ne {o : Oper} {σ : Fr} {v : Value} {t : Nat} (h : o.dst ≠ some t) : putO σ o.dst v t = σ t := by
 cases hd : o.dst with
 | none => rfl
 | some s =>
  show (bif Nat.beq t s then v else σ t) = σ t
  rw [nbeq_false (fun e => h (by rw [hd, e]))]; rfl
theorem open_step {P : Program} {hT : Hint} {n : Nat} {ops : Array Oper} {d : OD} {σ0 : Fr} {w0 : World} {G : World → World → Prop} {Φ : Nat → Value → World → Prop} {Q : Exit → Act → World → Prop} {K : Fr → World → Prop}
  (ok : OK ops d) (hhid : ∀ i, i < ops.size → (d.op i).eff = false → hidP P hT n ops d σ0 i)
  (gr : ∀ w, G w w) (gt : ∀ a b c, G a b → G b c → G a c) (st : ∀ i v a b, G w0 a → G a b → Φ i v a → Φ i v b) (hE : ∀ i ∈ d.effs, oblE P hT n ops d σ0 w0 G Φ i)
  (hK : ∀ σ w, K σ w → Q .normal (act ds n σ) w) (hF : ∀ w', G w0 w' → allE d.sh Φ w' d.effs fun vs => K (ov σ0 (oslots d ops σ0 (look d.effs vs) (List.range ops.size))) w') :
  ∀ (f : Nat) (listed : Array Bool) (vv : Nat → Value) (σ : Fr) (w : World), Inv ops [] listed → St ops d σ0 w0 G Φ listed vv σ w → left ops listed ≤ f → wpAny P .any ops Q f listed (act ds n σ) w := by
 have fin : ∀ (listed : Array Bool) (vv : Nat → Value) (σ : Fr) (w : World), Inv ops [] listed → St ops d σ0 w0 G Φ listed vv σ w → Region.ready .any ops listed = [] → Q .normal (act ds n σ) w := by
  intro listed vv σ w inv s hr
  have hall := all_listed ok inv.size hr
  have h1 := allE_elim (vv := vv) (l := d.effs) (fun j hj => s.c j (ok.effs j hj).2 (hall j (ok.effs j hj).2) (ok.effs j hj).1) (hF w s.g)
  have e : ov σ0 (oslots d ops σ0 (look d.effs (d.effs.map vv)) (List.range ops.size)) = σ := by
   have hov : ∀ (l : List Nat), (∀ j ∈ l, j < ops.size) → ∀ t, ov σ0 (oslots d ops σ0 (look d.effs (d.effs.map vv)) l) t = if (∃ j ∈ l, ∃ o, ops[j]? = some o ∧ o.dst = some t) then σ t else σ0 t := by
    intro l hl t
    induction l with
    | nil => simp [oslots, ov]
    | cons j r ih =>
     have ih := ih fun k hk => hl k (List.mem_cons_of_mem _ hk)
     have hj := hl j List.mem_cons_self
     have ho : ops[j]? = some ops[j] := Array.getElem?_eq_getElem hj
     unfold oslots
     cases hd : (ops[j]).dst with
     | none =>
      have : (ops[j]?).bind (·.dst) = none := by rw [ho]; exact hd
      rw [this]
      simp only
      rw [ih]
      congr 1
      apply propext
      constructor
      ·rintro ⟨k, hk, r⟩; exact ⟨k, List.mem_cons_of_mem _ hk, r⟩
      ·rintro ⟨k, hk, o, ho2, ht⟩
       rcases List.mem_cons.1 hk with rfl | hk
       ·rw [ho] at ho2; injection ho2 with ho2; subst ho2; rw [hd] at ht; cases ht
       ·exact ⟨k, hk, o, ho2, ht⟩
     | some s' =>
      have : (ops[j]?).bind (·.dst) = some s' := by rw [ho]; exact hd
      rw [this]
      simp only
      have hval : oval d σ0 (look d.effs (d.effs.map vv)) j = σ s' := by
       rw [s.a j _ s' ho (hall j hj) hd]
       unfold oval
       cases he : (d.op j).eff with
       | true => exact look_map ((ok.effM j hj).1 he)
       | false => simp only; congr 1; exact List.map_congr_left fun k hk => look_map ((ok.effM j hj).2 he k hk)
      show (bif Nat.beq t s' then _ else ov σ0 (oslots d ops σ0 (look d.effs (d.effs.map vv)) r) t) = _
      by_cases hts : t = s'
      ·subst hts
       rw [Nat.beq_refl, if_pos ⟨j, List.mem_cons_self, _, ho, hd⟩]
       exact hval
      ·rw [nbeq_false hts]
       show ov σ0 (oslots d ops σ0 (look d.effs (d.effs.map vv)) r) t = _
       rw [ih]
       congr 1
       apply propext
       constructor
       ·rintro ⟨k, hk, r⟩; exact ⟨k, List.mem_cons_of_mem _ hk, r⟩
       ·rintro ⟨k, hk, o, ho2, ht⟩
        rcases List.mem_cons.1 hk with rfl | hk
        ·rw [ho] at ho2; injection ho2 with ho2; subst ho2; rw [hd] at ht; injection ht with ht; exact absurd ht.symm hts
        ·exact ⟨k, hk, o, ho2, ht⟩
   funext t
   rw [hov _ (fun j hj => List.mem_range.1 hj) t]
   split
   ·rfl
   ·rename_i hn
    exact (s.b t fun i o ho _ ht => hn ⟨i, List.mem_range.2 (Array.getElem?_eq_some_iff.1 ho).1, o, ho, ht⟩).symm
  rw [e] at h1
  exact hK σ w h1
 intro f
 induction f with
 | zero =>
  intro listed vv σ w inv s hl
  have hr : Region.ready .any ops listed = [] := by
   rcases hrd : Region.ready .any ops listed with _ | ⟨i, r⟩
   ·rfl
   ·exfalso
    have hi : i ∈ Region.ready .any ops listed := by rw [hrd]; exact List.mem_cons_self
    obtain ⟨h0, o, ho, _⟩ := mem_ready.1 hi
    have := left_set inv.size (Array.getElem?_eq_some_iff.1 ho).1 (getD_ft h0)
    omega
  exact wpAny_done hr (fin listed vv σ w inv s hr) 0
 | succ f ih =>
  intro listed vv σ w inv s hl
  refine ⟨fun hr => fin listed vv σ w inv s hr, fun i hi => ?_⟩
  obtain ⟨h0, o, ho, _⟩ := mem_ready.1 hi
  have his := (Array.getElem?_eq_some_iff.1 ho).1
  have hun := getD_ft h0
  have hlt := left_set inv.size his hun
  have hdep : ∀ j ∈ (d.op i).dep, Φ j (vv j) w ∧ ∀ K : Value → Prop, allO (d.sh j) K → K (vv j) := fun j hj => by
   obtain ⟨h1, h2, h3⟩ := ok.depM i his j hj
   exact s.c j h3 ((wt_listed ok.cert inv j i his h1).2 hi) h2
  have hfr := s.frame ok inv his hi
  have go : ∀ (v : Value) (w' : World) (vv' : Nat → Value), (∀ k, k ≠ i → vv' k = vv k) → (∀ t, o.dst = some t → v = oval d σ0 vv' i) → ((d.op i).eff = true → Φ i (vv' i) w' ∧ ∀ K : Value → Prop, allO (d.sh i) K → K (vv' i)) → G w w' →
    wpAny P .any ops Q f (listed.setIfInBounds i true) (act ds n (putO σ o.dst v)) w' := by
   intro v w' vv' hvv hv hc hg
   refine ih _ vv' _ _ (inv.set hi) ⟨?_, ?_, ?_, gt _ _ _ s.g hg⟩ (by omega)
   ·intro j oj t hoj hlj ht
    by_cases hji : j = i
    ·subst hji
     have : oj = o := Option.some.inj (hoj.symm.trans ho)
     subst this
     rw [putO_dst ht]; exact hv t ht
    ·rw [getD_set_ne false (Ne.symm hji)] at hlj
     have hjs := (Array.getElem?_eq_some_iff.1 hoj).1
     have hne : o.dst ≠ some t := fun he => by
      rcases Nat.lt_or_gt_of_ne hji with h' | h'
      ·exact ok.dstM i j o oj t h' ho hoj he ht
      ·exact ok.dstM j i oj o t h' hoj ho ht he
     rw [putO_ne hne, s.a j oj t hoj hlj ht]
     unfold oval
     cases he : (d.op j).eff with
     | true => exact (hvv j hji).symm
     | false =>
      simp only; congr 1
      refine List.map_congr_left fun k hk => (hvv k fun hki => ?_).symm
      subst hki
      have := (wt_listed ok.cert inv k j hjs (ok.depM j hjs k hk).1).1 hlj
      rw [hun] at this; cases this
   ·intro t ht
    have hne : o.dst ≠ some t := ht i o ho (by simp [inv.size, his])
    rw [putO_ne hne]
    exact s.b t fun j oj hoj hlj => ht j oj hoj (getD_set_true hlj)
   ·intro j hjs hlj he
    by_cases hji : j = i
    ·subst hji; exact hc he
    ·rw [getD_set_ne false (Ne.symm hji)] at hlj
     obtain ⟨h1, h2⟩ := s.c j hjs hlj he
     rw [hvv j hji]
     exact ⟨st j _ _ _ s.g hg h1, h2⟩
  cases he : (d.op i).eff with
  | true =>
   have hob := hE i ((ok.effM i his).1 he)
   unfold oblE at hob
   rw [ho] at hob
   have h1 := allE_elim (vv := vv) hdep (hob σ w s.g)
   rw [hfr] at h1
   refine effW_form ho (fun v w' hk => ?_) h1
   obtain ⟨⟨hg, hphi⟩, hsh⟩ := qO_elim hk
   refine go v w' (fun k => if k = i then dstv o (putO σ o.dst v) else vv k) (fun k hk => by rw [if_neg hk]) (fun t ht => ?_) (fun _ => ?_) hg
   ·unfold oval
    rw [he]
    simp only [if_true]
    unfold dstv
    rw [ht]
    have := putO_dst (σ := σ) (v := v) ht
    rw [ht] at this
    exact this.symm
   ·simp only [if_true]
    exact ⟨hphi, hsh⟩
  | false =>
   have hob := hhid i his he
   unfold hidP at hob
   rw [ho] at hob
   have h1 := allS_elim (vv := vv) (fun j hj => (hdep j hj).2) (hob σ w)
   rw [hfr] at h1
   refine effW_form ho (fun v w' hk => ?_) h1
   obtain ⟨rfl, hk⟩ := hk
   refine go v w' vv (fun _ _ => rfl) (fun t ht => ?_) (fun h => by rw [he] at h; cases h) (gr _)
   unfold oval
   rw [he]
   unfold dstv at hk
   rw [ht] at hk
   simp only at hk
   have := putO_dst (σ := σ) (v := v) ht
   rw [ht] at this
   rw [this] at hk
   exact hk
theorem open_sound {P : Program} {hT : Hint} {n id : Nat} {ops : Array Oper} {d : OD} {σ : Fr} {w : World} {Q : Exit → Act → World → Prop} {K : Fr → World → Prop} (hm : P.follows .mixedOrders = true) (hc : chkO ops d = true)
  (hK : ∀ σ w, K σ w → Q .normal (act ds n σ) w) (h : openW P hT n ops d σ K w.drew) : (Code.region id ops true).wp P Q (act ds n σ) w := by
 refine wp_region_any hm ?_
 obtain ⟨hh, G, Φ, gr, gt, st, hE, hF⟩ := h
 have ok := ok_of hc
 have h0 : ∀ i, (Array.replicate ops.size false).getD i false = false := by
  intro i
  rcases Nat.lt_or_ge i ops.size with h' | h' <;> simp [h']
 refine open_step ok (fun i hi he => hidPs_mem hh i (List.mem_range.2 hi) he) gr gt st (fun i hi => oblEs_mem hE i hi) hK hF ops.size _ (fun _ => undef) σ w.drew ⟨by simp, (fun p hp => by simp at hp), fun j oj hj hl => ?_⟩ ⟨fun i o t ho hl => ?_, fun t _ => rfl, fun i hi hl => ?_, gr _⟩ ?_
 ·rw [h0] at hl; cases hl
 ·rw [h0] at hl; cases hl
 ·rw [h0] at hl; cases hl
 ·unfold left
  have := List.length_filter_le (fun i => !(Array.replicate ops.size false).getD i false) (List.range ops.size)
  rwa [List.length_range] at this
def upB (ls : Nat → Bool) (i : Nat) : Nat → Bool := fun k => bif Nat.beq k i then true else ls k
def upV (vv : Nat → Value) (i : Nat) (v : Value) : Nat → Value := fun k => bif Nat.beq k i then v else vv k
section
variable (P : Program) (hT : Hint) (n : Nat) (ops : Array Oper) (d : OD) (σ0 : Fr) (I : (Nat → Bool) → (Nat → Value) → World → Prop)
def oblI (i : Nat) : Prop := match ops[i]? with
 | some o => ∀ (f : Fr) (ls : Nat → Bool) (vv : Nat → Value) (w : World), ls i = false → I ls vv w → allE d.sh (fun j v _ => ls j = true ∧ vv j = v) w (d.op i).dep fun vs =>
   effW P hT n ops o (ov f (opre σ0 (preAt ops d i) ++ oslots d ops σ0 (look (d.op i).dep vs) (d.op i).src)) (fun σ' w' => qO (d.sh i) (dstv o σ') (I (upB ls i) (upV vv i (dstv o σ')) w')) w
 | none => False
def oblIs : List Nat → Prop
 | [] => True
 | i :: r => oblI P hT n ops d σ0 I i ∧ oblIs r
def openI (K : Fr → World → Prop) (w : World) : Prop := hidPs P hT n ops d σ0 (List.range ops.size) ∧ ∃ (I : (Nat → Bool) → (Nat → Value) → World → Prop), I (fun _ => false) (fun _ => undef) w ∧
 oblIs P hT n ops d σ0 I d.effs ∧ ∀ ls vv w', I ls vv w' → allE d.sh (fun j v _ => ls j = true ∧ vv j = v) w' d.effs fun vs => K (ov σ0 (oslots d ops σ0 (look d.effs vs) (List.range ops.size))) w'
end
theorem oblIs_mem {P : Program} {hT : Hint} {n : Nat} {ops : Array Oper} {d : OD} {σ0 : Fr} {I : (Nat → Bool) → (Nat → Value) → World → Prop} : ∀ {l : List Nat}, oblIs P hT n ops d σ0 I l → ∀ i ∈ l, oblI P hT n ops d σ0 I i
 | j :: r, h, i, hi => by
  rcases List.mem_cons.1 hi with rfl | hi
  ·exact h.1
  ·exact oblIs_mem h.2 i hi
def lsE (d : OD) (listed : Array Bool) : Nat → Bool := fun k => listed.getD k false && (d.op k).eff
theorem lsE_eff {d : OD} {listed : Array Bool} {i : Nat} (hs : i < listed.size) (he : (d.op i).eff = true) : lsE d (listed.setIfInBounds i true) = upB (lsE d listed) i := by
 funext k
 unfold lsE upB
 by_cases h : k = i
 ·subst h; rw [Nat.beq_refl, he]; simp [hs]
 ·rw [nbeq_false h, getD_set_ne false (Ne.symm h)]; rfl
theorem lsE_hid {d : OD} {listed : Array Bool} {i : Nat} (he : (d.op i).eff = false) : lsE d (listed.setIfInBounds i true) = lsE d listed := by
 funext k
 unfold lsE
 by_cases h : k = i
 ·subst h; rw [he]; simp
 ·rw [getD_set_ne false (Ne.symm h)]
structure StI (ops : Array Oper) (d : OD) (σ0 : Fr) (I : (Nat → Bool) → (Nat → Value) → World → Prop) (listed : Array Bool) (vv : Nat → Value) (σ : Fr) (w : World) : Prop where
 a : ∀ (i : Nat) (o : Oper) (t : Nat), ops[i]? = some o → listed.getD i false = true → o.dst = some t → σ t = oval d σ0 vv i
 b : ∀ t : Nat, (∀ (i : Nat) (o : Oper), ops[i]? = some o → listed.getD i false = true → o.dst ≠ some t) → σ t = σ0 t
 c : ∀ i, i < ops.size → listed.getD i false = true → (d.op i).eff = true → ∀ K : Value → Prop, allO (d.sh i) K → K (vv i)
 g : I (lsE d listed) vv w
theorem StI.frame {ops : Array Oper} {d : OD} {σ0 : Fr} {I : (Nat → Bool) → (Nat → Value) → World → Prop} {listed : Array Bool} {vv : Nat → Value} {σ : Fr} {w : World} (ok : OK ops d)
  (st : StI ops d σ0 I listed vv σ w) (inv : Inv ops [] listed) {i : Nat} (hi : i < ops.size) (hr : i ∈ Region.ready .any ops listed) :
  ov σ (opre σ0 (preAt ops d i) ++ oslots d ops σ0 (look (d.op i).dep ((d.op i).dep.map vv)) (d.op i).src) = σ := by
 refine ov_self fun x hx => ?_
 rcases List.mem_append.1 hx with hx | hx
 ·obtain ⟨h1, h2⟩ := mem_opre hx
  rw [h2]
  refine st.b _ fun j o ho hl ht => ?_
  have q := preAt_mem h1 ho ht
  have := (wt_listed ok.cert inv i j (Array.getElem?_eq_some_iff.1 ho).1 q).1 hl
  obtain ⟨h0, _⟩ := mem_ready.1 hr
  rw [getD_ft h0] at this; cases this
 ·obtain ⟨j, hj, o, ho, ht, hv⟩ := mem_oslots hx
  rw [hv, oval_look ok hi hj]
  exact st.a j o _ ho ((wt_listed ok.cert inv j i hi (ok.srcM i hi j hj).1).2 hr) ht
theorem openI_step {P : Program} {hT : Hint} {n : Nat} {ops : Array Oper} {d : OD} {σ0 : Fr} {I : (Nat → Bool) → (Nat → Value) → World → Prop} {Q : Exit → Act → World → Prop} {K : Fr → World → Prop}
  (ok : OK ops d) (hhid : ∀ i, i < ops.size → (d.op i).eff = false → hidP P hT n ops d σ0 i)
  (hE : ∀ i ∈ d.effs, oblI P hT n ops d σ0 I i)
  (hK : ∀ σ w, K σ w → Q .normal (act ds n σ) w) (hF : ∀ ls vv w', I ls vv w' → allE d.sh (fun j v _ => ls j = true ∧ vv j = v) w' d.effs fun vs => K (ov σ0 (oslots d ops σ0 (look d.effs vs) (List.range ops.size))) w') :
  ∀ (f : Nat) (listed : Array Bool) (vv : Nat → Value) (σ : Fr) (w : World), Inv ops [] listed → StI ops d σ0 I listed vv σ w → left ops listed ≤ f → wpAny P .any ops Q f listed (act ds n σ) w := by
 have fin : ∀ (listed : Array Bool) (vv : Nat → Value) (σ : Fr) (w : World), Inv ops [] listed → StI ops d σ0 I listed vv σ w → Region.ready .any ops listed = [] → Q .normal (act ds n σ) w := by
  intro listed vv σ w inv s hr
  have hall := all_listed ok inv.size hr
  have h1 := allE_elim (vv := vv) (l := d.effs) (fun j hj => ⟨⟨by unfold lsE; rw [hall j (ok.effs j hj).2, (ok.effs j hj).1]; rfl, rfl⟩, s.c j (ok.effs j hj).2 (hall j (ok.effs j hj).2) (ok.effs j hj).1⟩) (hF _ _ w s.g)
  have e : ov σ0 (oslots d ops σ0 (look d.effs (d.effs.map vv)) (List.range ops.size)) = σ := by
   have hov : ∀ (l : List Nat), (∀ j ∈ l, j < ops.size) → ∀ t, ov σ0 (oslots d ops σ0 (look d.effs (d.effs.map vv)) l) t = if (∃ j ∈ l, ∃ o, ops[j]? = some o ∧ o.dst = some t) then σ t else σ0 t := by
    intro l hl t
    induction l with
    | nil => simp [oslots, ov]
    | cons j r ih =>
     have ih := ih fun k hk => hl k (List.mem_cons_of_mem _ hk)
     have hj := hl j List.mem_cons_self
     have ho : ops[j]? = some ops[j] := Array.getElem?_eq_getElem hj
     unfold oslots
     cases hd : (ops[j]).dst with
     | none =>
      have : (ops[j]?).bind (·.dst) = none := by rw [ho]; exact hd
      rw [this]
      simp only
      rw [ih]
      congr 1
      apply propext
      constructor
      ·rintro ⟨k, hk, r⟩; exact ⟨k, List.mem_cons_of_mem _ hk, r⟩
      ·rintro ⟨k, hk, o, ho2, ht⟩
       rcases List.mem_cons.1 hk with rfl | hk
       ·rw [ho] at ho2; injection ho2 with ho2; subst ho2; rw [hd] at ht; cases ht
       ·exact ⟨k, hk, o, ho2, ht⟩
     | some s' =>
      have : (ops[j]?).bind (·.dst) = some s' := by rw [ho]; exact hd
      rw [this]
      simp only
      have hval : oval d σ0 (look d.effs (d.effs.map vv)) j = σ s' := by
       rw [s.a j _ s' ho (hall j hj) hd]
       unfold oval
       cases he : (d.op j).eff with
       | true => exact look_map ((ok.effM j hj).1 he)
       | false => simp only; congr 1; exact List.map_congr_left fun k hk => look_map ((ok.effM j hj).2 he k hk)
      show (bif Nat.beq t s' then _ else ov σ0 (oslots d ops σ0 (look d.effs (d.effs.map vv)) r) t) = _
      by_cases hts : t = s'
      ·subst hts
       rw [Nat.beq_refl, if_pos ⟨j, List.mem_cons_self, _, ho, hd⟩]
       exact hval
      ·rw [nbeq_false hts]
       show ov σ0 (oslots d ops σ0 (look d.effs (d.effs.map vv)) r) t = _
       rw [ih]
       congr 1
       apply propext
       constructor
       ·rintro ⟨k, hk, r⟩; exact ⟨k, List.mem_cons_of_mem _ hk, r⟩
       ·rintro ⟨k, hk, o, ho2, ht⟩
        rcases List.mem_cons.1 hk with rfl | hk
        ·rw [ho] at ho2; injection ho2 with ho2; subst ho2; rw [hd] at ht; injection ht with ht; exact absurd ht.symm hts
        ·exact ⟨k, hk, o, ho2, ht⟩
   funext t
   rw [hov _ (fun j hj => List.mem_range.1 hj) t]
   split
   ·rfl
   ·rename_i hn
    exact (s.b t fun i o ho _ ht => hn ⟨i, List.mem_range.2 (Array.getElem?_eq_some_iff.1 ho).1, o, ho, ht⟩).symm
  rw [e] at h1
  exact hK σ w h1
 intro f
 induction f with
 | zero =>
  intro listed vv σ w inv s hl
  have hr : Region.ready .any ops listed = [] := by
   rcases hrd : Region.ready .any ops listed with _ | ⟨i, r⟩
   ·rfl
   ·exfalso
    have hi : i ∈ Region.ready .any ops listed := by rw [hrd]; exact List.mem_cons_self
    obtain ⟨h0, o, ho, _⟩ := mem_ready.1 hi
    have := left_set inv.size (Array.getElem?_eq_some_iff.1 ho).1 (getD_ft h0)
    omega
  exact wpAny_done hr (fin listed vv σ w inv s hr) 0
 | succ f ih =>
  intro listed vv σ w inv s hl
  refine ⟨fun hr => fin listed vv σ w inv s hr, fun i hi => ?_⟩
  obtain ⟨h0, o, ho, _⟩ := mem_ready.1 hi
  have his := (Array.getElem?_eq_some_iff.1 ho).1
  have hun := getD_ft h0
  have hlt := left_set inv.size his hun
  have hdep : ∀ j ∈ (d.op i).dep, (lsE d listed j = true ∧ vv j = vv j) ∧ ∀ K : Value → Prop, allO (d.sh j) K → K (vv j) := fun j hj => by
   obtain ⟨h1, h2, h3⟩ := ok.depM i his j hj
   have h4 := (wt_listed ok.cert inv j i his h1).2 hi
   exact ⟨⟨by unfold lsE; rw [h4, h2]; rfl, rfl⟩, s.c j h3 h4 h2⟩
  have hfr := s.frame ok inv his hi
  have go : ∀ (v : Value) (w' : World) (vv' : Nat → Value), (∀ k, k ≠ i → vv' k = vv k) → (∀ t, o.dst = some t → v = oval d σ0 vv' i) → ((d.op i).eff = true → ∀ K : Value → Prop, allO (d.sh i) K → K (vv' i)) → I (lsE d (listed.setIfInBounds i true)) vv' w' →
    wpAny P .any ops Q f (listed.setIfInBounds i true) (act ds n (putO σ o.dst v)) w' := by
   intro v w' vv' hvv hv hc hg
   refine ih _ vv' _ _ (inv.set hi) ⟨?_, ?_, ?_, hg⟩ (by omega)
   ·intro j oj t hoj hlj ht
    by_cases hji : j = i
    ·subst hji
     have : oj = o := Option.some.inj (hoj.symm.trans ho)
     subst this
     rw [putO_dst ht]; exact hv t ht
    ·rw [getD_set_ne false (Ne.symm hji)] at hlj
     have hjs := (Array.getElem?_eq_some_iff.1 hoj).1
     have hne : o.dst ≠ some t := fun he => by
      rcases Nat.lt_or_gt_of_ne hji with h' | h'
      ·exact ok.dstM i j o oj t h' ho hoj he ht
      ·exact ok.dstM j i oj o t h' hoj ho ht he
     rw [putO_ne hne, s.a j oj t hoj hlj ht]
     unfold oval
     cases he : (d.op j).eff with
     | true => exact (hvv j hji).symm
     | false =>
      simp only; congr 1
      refine List.map_congr_left fun k hk => (hvv k fun hki => ?_).symm
      subst hki
      have := (wt_listed ok.cert inv k j hjs (ok.depM j hjs k hk).1).1 hlj
      rw [hun] at this; cases this
   ·intro t ht
    have hne : o.dst ≠ some t := ht i o ho (by simp [inv.size, his])
    rw [putO_ne hne]
    exact s.b t fun j oj hoj hlj => ht j oj hoj (getD_set_true hlj)
   ·intro j hjs hlj he
    by_cases hji : j = i
    ·subst hji; exact hc he
    ·rw [getD_set_ne false (Ne.symm hji)] at hlj
     rw [hvv j hji]
     exact s.c j hjs hlj he
  cases he : (d.op i).eff with
  | true =>
   have hob := hE i ((ok.effM i his).1 he)
   unfold oblI at hob
   rw [ho] at hob
   have hno : lsE d listed i = false := by unfold lsE; rw [hun]; rfl
   have h1 := allE_elim (vv := vv) hdep (hob σ _ vv w hno s.g)
   rw [hfr] at h1
   refine effW_form ho (fun v w' hk => ?_) h1
   obtain ⟨hI, hsh⟩ := qO_elim hk
   have hself : upV vv i (dstv o (putO σ o.dst v)) i = dstv o (putO σ o.dst v) := by unfold upV; rw [Nat.beq_refl]; rfl
   refine go v w' (upV vv i (dstv o (putO σ o.dst v))) (fun k hk => by unfold upV; rw [nbeq_false hk]; rfl) (fun t ht => ?_) (fun _ => ?_) ?_
   ·unfold oval
    rw [he]
    simp only
    rw [hself]
    unfold dstv
    rw [ht]
    have := putO_dst (σ := σ) (v := v) ht
    rw [ht] at this
    exact this.symm
   ·rw [hself]; exact hsh
   ·rw [lsE_eff (by rw [inv.size]; exact his) he]; exact hI
  | false =>
   have hob := hhid i his he
   unfold hidP at hob
   rw [ho] at hob
   have h1 := allS_elim (vv := vv) (fun j hj => (hdep j hj).2) (hob σ w)
   rw [hfr] at h1
   refine effW_form ho (fun v w' hk => ?_) h1
   obtain ⟨rfl, hk⟩ := hk
   refine go v w' vv (fun _ _ => rfl) (fun t ht => ?_) (fun h => by rw [he] at h; cases h) (by rw [lsE_hid he]; exact s.g)
   unfold oval
   rw [he]
   unfold dstv at hk
   rw [ht] at hk
   simp only at hk
   have := putO_dst (σ := σ) (v := v) ht
   rw [ht] at this
   rw [this] at hk
   exact hk
theorem openI_sound {P : Program} {hT : Hint} {n id : Nat} {ops : Array Oper} {d : OD} {σ : Fr} {w : World} {Q : Exit → Act → World → Prop} {K : Fr → World → Prop} (hm : P.follows .mixedOrders = true) (hc : chkO ops d = true)
  (hK : ∀ σ w, K σ w → Q .normal (act ds n σ) w) (h : openI P hT n ops d σ K w.drew) : (Code.region id ops true).wp P Q (act ds n σ) w := by
 refine wp_region_any hm ?_
 obtain ⟨hh, I, h0I, hE, hF⟩ := h
 have ok := ok_of hc
 have h0 : ∀ i, (Array.replicate ops.size false).getD i false = false := by
  intro i
  rcases Nat.lt_or_ge i ops.size with h' | h' <;> simp [h']
 refine openI_step ok (fun i hi he => hidPs_mem hh i (List.mem_range.2 hi) he) (fun i hi => oblIs_mem hE i hi) hK hF ops.size _ (fun _ => undef) σ w.drew ⟨by simp, (fun p hp => by simp at hp), fun j oj hj hl => ?_⟩ ⟨fun i o t ho hl => ?_, fun t _ => rfl, fun i hi hl => ?_, ?_⟩ ?_
 ·rw [h0] at hl; cases hl
 ·rw [h0] at hl; cases hl
 ·rw [h0] at hl; cases hl
 ·have : lsE d (Array.replicate ops.size false) = fun _ => false := by funext k; unfold lsE; rw [h0]; rfl
  rw [this]; exact h0I
 ·unfold left
  have := List.length_filter_le (fun i => !(Array.replicate ops.size false).getD i false) (List.range ops.size)
  rwa [List.length_range] at this
abbrev PQ := Exit → Fr → World → Prop
abbrev Spec := PQ → Fr → World → Prop
inductive DH where
 | simple (A B : List DI) | held (A B : List DI) | opn (d : OD) | pre (A0 : List Nat) (A B : List DI) | opi (d : OD)
def thenQ (K : Fr → World → Prop) (Q : PQ) : PQ
 | .normal, σ, w => K σ w
 | e, σ, w => Q e σ w
def blockQ (id : Nat) (Q : PQ) : PQ
 | .exit id', σ, w => match Nat.beq id' id with | true => Q .normal σ w | false => Q (.exit id') σ w
 | e, σ, w => Q e σ w
def drawW (P : Program) (hT : Hint) (n : Nat) (ops : Array Oper) (d : DH) (σ : Fr) (K : Fr → World → Prop) (w : World) : Prop := match d with
 | .simple A B => drawA P hT n ops (fun w' => w' = w.drew) (fun a v => w.drew.cell? a = some v) A σ (fun σ w => drawB P hT n ops B σ K w) w.drew
 | .held A B => ∃ S : World → Prop, S w.drew ∧ drawA P hT n ops S (fun a v => ∀ w', S w' → w'.cell? a = some v) A σ (fun σ w => drawB P hT n ops B σ K w) w.drew
 | .opn d => openW P hT n ops d σ K w.drew
 | .opi d => openI P hT n ops d σ K w.drew
 | .pre A0 A B => drawP P hT n ops A0 σ fun σ => drawA P hT n ops (fun w' => w' = w.drew) (fun a v => w.drew.cell? a = some v) A σ (fun σ w => drawB P hT n ops B σ K w) w.drew
def codeW (P : Program) (hT : Hint) (n : Nat) (D : Nat → Option DH) (L : List Nat → Option Spec) : List Nat → Code → PQ → Fr → World → Prop
 | _, .skip, Q, σ, w => Q .normal σ w
 | _, .region _ ops false, Q, σ, w => opsW P hT n ops ops.toList σ (Q .normal) w
 | _, .region id ops true, Q, σ, w => match D id with
  | some d => drawW P hT n ops d σ (Q .normal) w
  | none => False
 | p, .seq a b, Q, σ, w => codeW P hT n D L (0 :: p) a (thenQ (fun σ w => match L (1 :: p) with
   | some T => T Q σ w
   | none => codeW P hT n D L (1 :: p) b Q σ w) Q) σ w
 | p, .cond c a b, Q, σ, w => match ev n σ c with
  | .bool t => sel t (match L (0 :: p) with
   | some T => T Q σ w
   | none => codeW P hT n D L (0 :: p) a Q σ w) (match L (1 :: p) with
   | some T => T Q σ w
   | none => codeW P hT n D L (1 :: p) b Q σ w)
  | _ => False
 | p, .block id c, Q, σ, w => codeW P hT n D L (0 :: p) c (blockQ id Q) σ w
 | p, .loop _, Q, σ, w => match L p with
  | some T => T Q σ w
  | none => False
 | p, .scope _, Q, σ, w => match L p with
  | some T => T Q σ w
  | none => False
 | p, .rangeFunc .., Q, σ, w => match L p with
  | some T => T Q σ w
  | none => False
 | _, .exit id, Q, σ, w => Q (.exit id) σ w
 | _, .label _, Q, σ, w => Q .normal σ w
 | _, .goto l, Q, σ, w => Q (.goto l) σ w
 | _, .ret, Q, σ, w => Q .ret σ w
 | _, .refuse _, _, _, _ => False
def liftQ (ds : List Deferred) (n : Nat) (Q : PQ) : Exit → Act → World → Prop := fun e a w => match e with
 | .panic _ => False
 | .outgrown => False
 | e => ∃ σ, a = act ds n σ ∧ Q e σ w
def Snd (P : Program) (n : Nat) (c : Code) (T : Spec) : Prop := ∀ (ds : List Deferred) Q σ w, T Q σ w → c.wp P (liftQ ds n Q) (act ds n σ) w
def child : Nat → Code → Option Code
 | 0, .seq a _ => some a
 | 1, .seq _ b => some b
 | 0, .cond _ a _ => some a
 | 1, .cond _ _ b => some b
 | 0, .block _ c => some c
 | 0, .loop c => some c
 | 0, .scope c => some c
 | 0, .rangeFunc _ _ a _ => some a
 | 1, .rangeFunc _ _ _ b => some b
 | _, _ => none
def subC : List Nat → Code → Option Code
 | [], c => some c
 | d :: p, c => (subC p c).bind (child d)
def chkC (D : Nat → Option DH) (L : List Nat → Bool) : List Nat → Code → Bool
 | _, .region id ops true => match D id with
  | some (.simple A B) => chkD ops A B
  | some (.held A B) => chkD ops A B
  | some (.opn d) => chkO ops d
  | some (.opi d) => chkO ops d
  | some (.pre A0 A B) => chkDP ops A0 A B
  | none => false
 | p, .seq a b => chkC D L (0 :: p) a && (match L (1 :: p) with | true => true | false => chkC D L (1 :: p) b)
 | p, .cond _ a b => (match L (0 :: p) with | true => true | false => chkC D L (0 :: p) a) && (match L (1 :: p) with | true => true | false => chkC D L (1 :: p) b)
 | p, .block _ c => chkC D L (0 :: p) c
 | _, _ => true
theorem liftQ_then {n : Nat} {K : Fr → World → Prop} {Q : PQ} {next : Act → World → Prop} (hK : ∀ σ w, K σ w → next (act ds n σ) w) :
  ∀ e a w, liftQ ds n (thenQ K Q) e a w → Exit.then next (liftQ ds n Q) e a w := by
 intro e a w h
 cases e <;> simp only [liftQ, thenQ, Exit.then] at h ⊢
 case normal => obtain ⟨σ, rfl, h⟩ := h; exact hK _ _ h
 all_goals exact h
theorem liftQ_block {n id : Nat} {Q : PQ} : ∀ e a w, liftQ ds n (blockQ id Q) e a w → Exit.inBlock id (liftQ ds n Q) e a w := by
 intro e a w h
 cases e with
 | exit id' =>
  simp only [liftQ, blockQ, Exit.inBlock] at h ⊢
  obtain ⟨σ, rfl, h⟩ := h
  by_cases e : id' = id
  ·have : Nat.beq id' id = true := by subst e; exact Nat.beq_refl _
   rw [this] at h
   rw [if_pos e]
   exact ⟨σ, rfl, h⟩
  ·rw [nbeq_false e] at h
   rw [if_neg e]
   exact ⟨σ, rfl, h⟩
 | normal => exact h
 | ret => exact h
 | goto l => exact h
 | panic c => exact h
 | outgrown => exact h
theorem codeW_sound {P : Program} {hT : Hint} {n : Nat} {D : Nat → Option DH} {L : List Nat → Option Spec} {c0 : Code} (hm : P.follows .mixedOrders = true)
  (hL : ∀ p c T, subC p c0 = some c → L p = some T → Snd P n c T) : ∀ (c : Code) (p : List Nat), subC p c0 = some c → chkC D (fun p => (L p).isSome) p c = true →
   Snd P n c (codeW P hT n D L p c) := by
 intro c
 induction c with
 | skip => intro p _ _ ds Q σ w h; exact wp_skip ⟨σ, rfl, h⟩
 | region id ops draw =>
  intro p _ hc ds Q σ w h
  cases draw with
  | false => exact wp_region_list (opsW_sound (Q := liftQ ds n Q) (fun σ' w' h' => ⟨σ', rfl, h'⟩) ops.toList σ w h)
  | true =>
   simp only [codeW] at h
   simp only [chkC] at hc
   have hQ : ∀ c a w, ¬ liftQ ds n Q (.panic c) a w := fun c a w h => h
   split at h
   ·rename_i d hd
    rw [hd] at hc
    cases d with
    | simple A B => exact draw_sound (S := fun w' => w' = w.drew) hm hc hQ (fun σ' w' h' => ⟨σ', rfl, h'⟩) (fun a v hv w' hw' => by rw [hw']; exact hv) rfl h
    | held A B =>
     obtain ⟨S, hS, h⟩ := h
     exact draw_sound (S := S) hm hc hQ (fun σ' w' h' => ⟨σ', rfl, h'⟩) (fun a v hv => hv) hS h
    | opn d => exact open_sound hm hc (fun σ' w' h' => ⟨σ', rfl, h'⟩) h
    | opi d => exact openI_sound hm hc (fun σ' w' h' => ⟨σ', rfl, h'⟩) h
    | pre A0 A B => exact drawpre_sound (S := fun w' => w' = w.drew) hm hc hQ (fun σ' w' h' => ⟨σ', rfl, h'⟩) (fun a v hv w' hw' => by rw [hw']; exact hv) rfl h
   ·exact h.elim
 | seq a b iha ihb =>
  intro p hp hc ds Q σ w h
  simp only [chkC, Bool.and_eq_true] at hc
  have ha : subC (0 :: p) c0 = some a := by simp [subC, hp, child]
  have hb : subC (1 :: p) c0 = some b := by simp [subC, hp, child]
  refine wp_seq (wp_mono (iha _ ha hc.1 _ _ σ w h) (liftQ_then fun σ' w' h' => ?_))
  split at h'
  ·rename_i T hT'
   exact hL _ _ _ hb hT' _ _ _ _ h'
  ·rename_i hT'
   have hc2 := hc.2
   rw [hT'] at hc2
   exact ihb _ hb hc2 _ _ _ _ h'
 | cond c a b iha ihb =>
  intro p hp hc ds Q σ w h
  simp only [chkC, Bool.and_eq_true] at hc
  have ha : subC (0 :: p) c0 = some a := by simp [subC, hp, child]
  have hb : subC (1 :: p) c0 = some b := by simp [subC, hp, child]
  simp only [codeW] at h
  split at h
  ·rename_i t ht
   refine wp_cond_split (t := t) (by rw [act_eval]; exact ht) (fun e => ?_) (fun e => ?_)
   ·subst e
    simp only [sel] at h
    split at h
    ·rename_i T hT'; exact hL _ _ _ ha hT' _ _ _ _ h
    ·rename_i hT'
     have hc1 := hc.1
     rw [hT'] at hc1
     exact iha _ ha hc1 _ _ _ _ h
   ·subst e
    simp only [sel] at h
    split at h
    ·rename_i T hT'; exact hL _ _ _ hb hT' _ _ _ _ h
    ·rename_i hT'
     have hc2 := hc.2
     rw [hT'] at hc2
     exact ihb _ hb hc2 _ _ _ _ h
  ·exact h.elim
 | block id c ih =>
  intro p hp hc ds Q σ w h
  simp only [chkC] at hc
  have ha : subC (0 :: p) c0 = some c := by simp [subC, hp, child]
  exact wp_block (wp_mono (ih _ ha hc _ _ σ w h) liftQ_block)
 | loop c ih =>
  intro p hp hc ds Q σ w h
  simp only [codeW] at h
  split at h
  ·rename_i T hT'; exact hL _ _ _ hp hT' _ _ _ _ h
  ·exact h.elim
 | rangeFunc f params assign body ih1 ih2 =>
  intro p hp hc ds Q σ w h
  simp only [codeW] at h
  split at h
  ·rename_i T hT'; exact hL _ _ _ hp hT' _ _ _ _ h
  ·exact h.elim
 | scope c ih =>
  intro p hp hc ds Q σ w h
  simp only [codeW] at h
  split at h
  ·rename_i T hT'; exact hL _ _ _ hp hT' _ _ _ _ h
  ·exact h.elim
 | exit id => intro p _ _ ds Q σ w h; exact wp_exit ⟨σ, rfl, h⟩
 | label l => intro p _ _ ds Q σ w h; exact wp_label ⟨σ, rfl, h⟩
 | goto l => intro p _ _ ds Q σ w h; exact wp_goto ⟨σ, rfl, h⟩
 | ret => intro p _ _ ds Q σ w h; exact wp_ret ⟨σ, rfl, h⟩
 | refuse y => intro p _ _ ds Q σ w h; exact h.elim
theorem loop_snd {P : Program} {n : Nat} {c : Code} {Tk : Nat → Spec} (h0 : ∀ Q σ w, ¬ Tk 0 Q σ w)
  (hs : ∀ (ds : List Deferred) k Q σ w, Tk (k + 1) Q σ w → c.wp P (liftQ ds n (thenQ (Tk k Q) Q)) (act ds n σ) w) :
  Snd P n (.loop c) (fun Q σ w => ∃ k, Tk k Q σ w) := by
 rintro ds Q σ w ⟨k, hk⟩ b kk cs
 have key : ∀ k σ w, Tk k Q σ w → ∃ e a' w', liftQ ds n Q e a' w' ∧ Arrives P (lone (b.at (act ds n σ) (.code c :: .inLoop c :: kk)) cs w) b kk cs e a' w' := by
  intro k
  induction k with
  | zero => intro σ w h; exact absurd h (h0 _ _ _)
  | succ k ih =>
   intro σ w h
   obtain ⟨e, a₁, w₁, hq, harr⟩ := hs ds k Q σ w h b (.inLoop c :: kk) cs
   cases e with
   | normal =>
    obtain ⟨σ₁, rfl, hq⟩ := hq
    obtain ⟨e₂, a₂, w₂, hq₂, harr₂⟩ := ih σ₁ w₁ hq
    exact ⟨e₂, a₂, w₂, hq₂, .of_steps (Steps.trans harr (.one step_inLoop)) harr₂⟩
   | exit id => exact ⟨.exit id, a₁, w₁, (show liftQ ds n Q (.exit id) a₁ w₁ from hq), .pass (x := .inLoop c) rfl (fun _ _ => .inl (by simp)) harr⟩
   | goto l => exact ⟨.goto l, a₁, w₁, (show liftQ ds n Q (.goto l) a₁ w₁ from hq), .pass (x := .inLoop c) rfl (fun _ _ => .inl (by simp)) harr⟩
   | ret => exact ⟨.ret, a₁, w₁, (show liftQ ds n Q .ret a₁ w₁ from hq), .pass (x := .inLoop c) rfl (fun _ _ => .inl (by simp)) harr⟩
   | panic ch => exact hq.elim
   | outgrown => exact hq.elim
 obtain ⟨e, a', w', hq, harr⟩ := key k σ w hk
 exact ⟨e, a', w', hq, .of_steps (.one step_loop) harr⟩
def ldBig (P : Program) (w : World) (t : TypeId) (ad : Addr) (K : Array Value → Prop) : Prop := ∃ cs : Array Value, (loadVar t ad : Sem Value).run P w = .ok (.agg cs) w ∧ K cs
def resGo (P : Program) (hT : Hint) (n : Nat) (σ : Fr) (w : World) : List ResultVar → (List Value → Prop) → Prop
 | [], K => K []
 | .tmp t :: r, K => req (Nat.blt t n) (resGo P hT n σ w r fun vs => K (σ t :: vs))
 | .cell a t :: r, K => req (Nat.blt a n) (match σ a with
  | .pointer (some ad) => (match bigT P t with
   | true => ldBig P w t ad fun cs => resGo P hT n σ w r fun vs => K (.agg cs :: vs)
   | false => rdP P (loadVar t ad) (hT t).loads (fun a v => w.cell? a = some v) fun v => resGo P hT n σ w r fun vs => K (v :: vs))
  | _ => False)
def packV (vs : List Value) : Value := match vs with
 | [v] => v
 | vs => .tuple ⟨vs⟩
theorem act_getD (n : Nat) (σ : Fr) (t : Nat) (h : t < n) : (act ds n σ).tmps.getD t undef = σ t := by
 rw [Array.getD_eq_getD_getElem?, act_get, if_pos h]; rfl
theorem resGo_sound {P : Program} {hT : Hint} {n : Nat} {σ : Fr} {w : World} : ∀ {rs : List ResultVar} {K : List Value → Prop}, resGo P hT n σ w rs K →
  ∃ vs, vs.length = rs.length ∧ (rs.mapM fun r => (match r with
   | .tmp t => pure ((act ds n σ).tmps.getD t undef)
   | .cell a t => do loadVar t (← asAddr ((act ds n σ).tmps.getD a undef)) : Sem Value)).run P w = .ok vs w ∧ K vs
 | [], K, h => ⟨[], rfl, rfl, h⟩
 | .tmp t :: r, K, h => by
  obtain ⟨ht, h⟩ := req_elim h
  obtain ⟨vs, hl, hr, hk⟩ := resGo_sound h
  refine ⟨_, by simp [hl], ?_, hk⟩
  rw [List.mapM_cons]
  simp only
  rw [act_getD _ _ _ (Nat.blt_eq.mp ht)]
  rw [pure_bind, goes hr]; rfl
 | .cell a t :: r, K, h => by
  obtain ⟨ht, h⟩ := req_elim h
  split at h
  ·rename_i ad had
   split at h
   ·obtain ⟨cs, hv, h⟩ := h
    obtain ⟨vs, hl, hr, hk⟩ := resGo_sound h
    refine ⟨_, by simp [hl], ?_, hk⟩
    rw [List.mapM_cons]
    simp only
    rw [act_getD _ _ _ (Nat.blt_eq.mp ht), had]
    have e : (do loadVar t (← asAddr (Value.pointer (some ad))) : Sem Value).run P w = .ok (.agg cs) w := hv
    rw [goes e, goes hr]; rfl
   obtain ⟨v, hv, h⟩ := rdP_run P (fun w' => w' = w) (fun a v => w.cell? a = some v) (fun a v h w' hw' => by rw [hw']; exact h) _ _ _ h
   obtain ⟨vs, hl, hr, hk⟩ := resGo_sound h
   refine ⟨_, by simp [hl], ?_, hk⟩
   rw [List.mapM_cons]
   simp only
   rw [act_getD _ _ _ (Nat.blt_eq.mp ht), had]
   have e : (do loadVar t (← asAddr (Value.pointer (some ad))) : Sem Value).run P w = .ok v w := hv w rfl
   rw [goes e, goes hr]; rfl
  ·exact h.elim
def topQ (P : Program) (hT : Hint) (n : Nat) (rs : List ResultVar) (Q : Ending → World → Prop) : PQ := fun e σ w => match e with
 | .normal => resGo P hT n σ w rs fun vs => Q (.returned (packV vs)) w
 | .ret => resGo P hT n σ w rs fun vs => Q (.returned (packV vs)) w
 | _ => False
theorem results_sound {P : Program} {hT : Hint} {n : Nat} {σ : Fr} {w : World} {fn : Func} {rs : List ResultVar} (hrs : fn.results = ⟨rs⟩) {K : List Value → Prop} (h : resGo P hT n σ w rs K) :
  ∃ vs, (results fn (act ds n σ).tmps).run P w = .ok (packV vs) w ∧ K vs := by
 obtain ⟨vs, hl, hr, hk⟩ := resGo_sound h
 refine ⟨vs, ?_, hk⟩
 unfold results
 rw [hrs, Array.mapM_eq_mapM_toList]
 simp only [bind_map_left]
 refine (goes (a := vs) (w' := w) hr).trans ?_
 match vs with
 | [] => rfl
 | [v] => rfl
 | v :: u :: r => rfl
theorem calls_of_codeW {P : Program} {hT : Hint} {D : Nat → Option DH} {L : List Nat → Option Spec} {f : FuncId} {fn : Func} {c : Code} {n : Nat} {rs : List ResultVar} {args : List Value} {w : World}
  {Q : Ending → World → Prop} (hf : P.funcs[f]? = some fn) (hb : fn.body = some c) (hn : fn.ntmps = n) (hrs : fn.results = ⟨rs⟩) (hlen : Nat.ble args.length n = true)
  (hm : P.follows .mixedOrders = true) (hL : ∀ p c' T, subC p c = some c' → L p = some T → Snd P n c' T) (hc : chkC D (fun p => (L p).isSome) [] c = true)
  (h : codeW P hT n D L [] c (topQ P hT n rs Q) (argsF args) w) : Calls P f ⟨args⟩ w Q := by
 refine calls_of_wp hf hb ?_
 have e : ({ tmps := (⟨args⟩ : Array Value) ++ Array.replicate (fn.ntmps - (⟨args⟩ : Array Value).size) undef, defers := [] } : Act) = act [] n (argsF args) := by
  unfold act
  congr 1
  rw [hn]
  have hle : args.length ≤ n := Nat.ble_eq.mp hlen
  apply Array.ext
  ·simp; omega
  ·intro i h1 h2
   simp only [Array.getElem_ofFn, argsF]
   rw [Array.getElem_append]
   split
   ·rename_i hi
    have hi' : i < args.length := by simpa using hi
    simp [List.getD_eq_getElem?_getD, hi']
   ·rename_i hi
    have hi' : args.length ≤ i := by simpa using hi
    simp [List.getD_eq_getElem?_getD, List.getElem?_eq_none hi']
 rw [e]
 refine wp_mono (codeW_sound hm hL c [] rfl hc _ _ _ _ h) ?_
 intro ex a w' hq
 cases ex <;> simp only [liftQ, topQ] at hq
 case normal =>
  obtain ⟨σ, rfl, hq⟩ := hq
  obtain ⟨vs, hr, hk⟩ := results_sound hrs hq
  exact ⟨rfl, _, hr, hk⟩
 case ret =>
  obtain ⟨σ, rfl, hq⟩ := hq
  obtain ⟨vs, hr, hk⟩ := results_sound hrs hq
  exact ⟨rfl, _, hr, hk⟩
 case exit => obtain ⟨σ, rfl, hq⟩ := hq; exact hq.elim
 case goto => obtain ⟨σ, rfl, hq⟩ := hq; exact hq.elim
def eqL : List Nat → List Nat → Bool
 | [], [] => true
 | a :: x, b :: y => Nat.beq a b && eqL x y
 | _, _ => false
theorem eqL_eq : ∀ {x y : List Nat}, eqL x y = true → x = y
 | [], [], _ => rfl
 | a :: x, b :: y, h => by
  simp only [eqL, Bool.and_eq_true] at h
  rw [Nat.eq_of_beq_eq_true h.1, eqL_eq h.2]
 | [], _ :: _, h => by simp [eqL] at h
 | _ :: _, [], h => by simp [eqL] at h
def tab (l : List (List Nat × Spec)) (p : List Nat) : Option Spec := match l with
 | [] => none
 | (q, T) :: r => match eqL q p with
  | true => some T
  | false => tab r p
theorem tab_mem : ∀ {l : List (List Nat × Spec)} {p : List Nat} {T : Spec}, tab l p = some T → (p, T) ∈ l
 | [], p, T, h => by simp [tab] at h
 | (q, T') :: r, p, T, h => by
  unfold tab at h
  split at h
  ·rename_i e
   injection h with h; subst h; rw [eqL_eq e]; exact List.mem_cons_self
  ·exact List.mem_cons_of_mem _ (tab_mem h)
theorem tab_snd {P : Program} {n : Nat} {c0 : Code} {l : List (List Nat × Spec)} (h : ∀ x ∈ l, ∀ c, subC x.1 c0 = some c → Snd P n c x.2) :
  ∀ p c T, subC p c0 = some c → tab l p = some T → Snd P n c T := fun p c T hs ht => h (p, T) (tab_mem ht) c hs
def dtab (l : List (Nat × DH)) (i : Nat) : Option DH := match l with
 | [] => none
 | (j, d) :: r => match Nat.beq j i with
  | true => some d
  | false => dtab r i
structure LO where
 nrm : List Nat
 ret : List Nat
 exits : List (Nat × List Nat)
 gotos : List (Nat × List Nat)
def lookE (l : List (Nat × List Nat)) (i : Nat) : List Nat := match l with
 | [] => []
 | (j, x) :: r => match Nat.beq j i with
  | true => x
  | false => lookE r i
def readS (σ : Fr) (l : List Nat) : List (Nat × Value) := match l with
 | [] => []
 | t :: r => (t, σ t) :: readS σ r
theorem ov_readS (σ : Fr) (l : List Nat) : ov σ (readS σ l) = σ := by
 refine ov_self fun x hx => ?_
 induction l with
 | nil => simp [readS] at hx
 | cons t r ih =>
  simp only [readS, List.mem_cons] at hx
  rcases hx with rfl | hx
  ·rfl
  ·exact ih hx
def widen (L : LO) (Q : PQ) : PQ
 | .normal, σ, w => ∀ d : Fr, Q .normal (ov d (readS σ L.nrm)) w
 | .ret, σ, w => ∀ d : Fr, Q .ret (ov d (readS σ L.ret)) w
 | .exit i, σ, w => ∀ d : Fr, Q (.exit i) (ov d (readS σ (lookE L.exits i))) w
 | .goto i, σ, w => ∀ d : Fr, Q (.goto i) (ov d (readS σ (lookE L.gotos i))) w
 | e, σ, w => Q e σ w
theorem widen_le {L : LO} {Q : PQ} : ∀ e σ w, widen L Q e σ w → Q e σ w := by
 intro e σ w h
 cases e <;> simp only [widen] at h
 case normal => have := h σ; rwa [ov_readS] at this
 case ret => have := h σ; rwa [ov_readS] at this
 case exit i => have := h σ; rwa [ov_readS] at this
 case goto i => have := h σ; rwa [ov_readS] at this
 all_goals exact h
theorem liftQ_le {n : Nat} {Q Q' : PQ} (h : ∀ e σ w, Q e σ w → Q' e σ w) : ∀ e a w, liftQ ds n Q e a w → liftQ ds n Q' e a w := by
 intro e a w hq
 cases e <;> simp only [liftQ] at hq ⊢
 all_goals (obtain ⟨σ, rfl, hq⟩ := hq; exact ⟨σ, rfl, h _ _ _ hq⟩)
theorem thenQ_le {K : Fr → World → Prop} {Q Q' : PQ} (h : ∀ e σ w, Q e σ w → Q' e σ w) : ∀ e σ w, thenQ K Q e σ w → thenQ K Q' e σ w := by
 intro e σ w hq
 cases e <;> simp only [thenQ] at hq ⊢
 case normal => exact hq
 all_goals exact h _ _ _ hq
theorem loop_of {P : Program} {hT : Hint} {n : Nat} {D : Nat → Option DH} {l : List (List Nat × Spec)} {c0 b : Code} {p : List Nat} {Tk : Nat → Spec} {lo : LO} (hm : P.follows .mixedOrders = true)
  (hL : ∀ x ∈ l, ∀ c, subC x.1 c0 = some c → Snd P n c x.2) (hp : subC p c0 = some (.loop b)) (hc : chkC D (fun p => (tab l p).isSome) (0 :: p) b = true)
  (h0 : ∀ Q σ w, ¬ Tk 0 Q σ w) (h : ∀ k Q σ w, Tk (k + 1) Q σ w → codeW P hT n D (tab l) (0 :: p) b (thenQ (Tk k Q) (widen lo Q)) σ w) :
  ∀ c, subC p c0 = some c → Snd P n c (fun Q σ w => ∃ k, Tk k Q σ w) := by
 intro c hc'
 obtain rfl : c = .loop b := Option.some.inj (hc'.symm.trans hp)
 refine loop_snd h0 fun ds k Q σ w ht => ?_
 refine wp_mono (codeW_sound hm (tab_snd hL) b (0 :: p) (by simp [subC, hp, child]) hc ds _ σ w (h k Q σ w ht)) ?_
 exact liftQ_le (thenQ_le widen_le)
theorem cut_of {P : Program} {hT : Hint} {n : Nat} {D : Nat → Option DH} {l : List (List Nat × Spec)} {c0 b : Code} {p : List Nat} {T : Spec} {lo : LO} (hm : P.follows .mixedOrders = true)
  (hL : ∀ x ∈ l, ∀ c, subC x.1 c0 = some c → Snd P n c x.2) (hp : subC p c0 = some b) (hc : chkC D (fun p => (tab l p).isSome) p b = true)
  (h : ∀ Q σ w, T Q σ w → codeW P hT n D (tab l) p b (widen lo Q) σ w) : ∀ c, subC p c0 = some c → Snd P n c T := by
 intro c hc' ds Q σ w ht
 obtain rfl : c = b := Option.some.inj (hc'.symm.trans hp)
 exact wp_mono (codeW_sound hm (tab_snd hL) c p hp hc ds _ σ w (h Q σ w ht)) (liftQ_le widen_le)
def gotoQ (l : Nat) (K : Fr → World → Prop) (Q : PQ) : PQ
 | .goto l', σ, w => match Nat.beq l' l with | true => K σ w | false => False
 | e, σ, w => Q e σ w
theorem scope_snd {P : Program} {n l : Nat} {b b' : Code} {Tk : Nat → Spec} {T : Spec} (hf : findLabel b l = some (.seq .skip b')) (h0 : ∀ Q σ w, ¬ Tk 0 Q σ w)
  (hs : ∀ (ds : List Deferred) k Q σ w, Tk (k + 1) Q σ w → b'.wp P (liftQ ds n (gotoQ l (Tk k Q) Q)) (act ds n σ) w)
  (h : ∀ (ds : List Deferred) Q σ w, T Q σ w → b.wp P (liftQ ds n (gotoQ l (fun σ w => ∃ k, Tk k Q σ w) Q)) (act ds n σ) w) : Snd P n (.scope b) T := by
 intro ds Q σ w hT bb kk cs
 have hg : gotoIn l (.inScope b :: kk) = some (.code (.seq .skip b') :: .inScope b :: kk) := by simp [gotoIn, hf]
 have key : ∀ k σ w, Tk k Q σ w → ∃ e a' w', liftQ ds n Q e a' w' ∧ Arrives P (lone (bb.at (act ds n σ) (.code (.seq .skip b') :: .inScope b :: kk)) cs w) bb kk cs e a' w' := by
  intro k
  induction k with
  | zero => intro σ w h; exact absurd h (h0 _ _ _)
  | succ k ih =>
   intro σ w hk
   have hw : (Code.seq .skip b').wp P (liftQ ds n (gotoQ l (Tk k Q) Q)) (act ds n σ) w := wp_seq (wp_skip (hs ds k Q σ w hk))
   obtain ⟨e, a₁, w₁, hq, harr⟩ := hw bb (.inScope b :: kk) cs
   cases e with
   | normal => exact ⟨.normal, a₁, w₁, hq, Steps.trans harr (.one step_inScope)⟩
   | exit id => exact ⟨.exit id, a₁, w₁, hq, fun k' hk => harr k' (by simp [exitTo, hk])⟩
   | goto l' =>
    obtain ⟨σ₁, rfl, hq⟩ := hq
    by_cases e : l' = l
    ·subst e
     simp only [gotoQ, Nat.beq_refl] at hq
     obtain ⟨e₂, a₂, w₂, hq₂, harr₂⟩ := ih σ₁ w₁ hq
     exact ⟨e₂, a₂, w₂, hq₂, .of_steps (harr _ hg) harr₂⟩
    ·simp only [gotoQ, nbeq_false e] at hq
   | ret => exact ⟨.ret, a₁, w₁, hq, harr⟩
   | panic ch => exact hq.elim
   | outgrown => exact hq.elim
 obtain ⟨e, a₁, w₁, hq, harr⟩ := h ds Q σ w hT bb (.inScope b :: kk) cs
 cases e with
 | normal => exact ⟨.normal, a₁, w₁, hq, .head step_scope (Steps.trans harr (.one step_inScope))⟩
 | exit id => exact ⟨.exit id, a₁, w₁, hq, fun k' hk => .head step_scope (harr k' (by simp [exitTo, hk]))⟩
 | goto l' =>
  obtain ⟨σ₁, rfl, hq⟩ := hq
  by_cases e : l' = l
  ·subst e
   simp only [gotoQ, Nat.beq_refl] at hq
   obtain ⟨k, hk⟩ := hq
   obtain ⟨e₂, a₂, w₂, hq₂, harr₂⟩ := key k σ₁ w₁ hk
   exact ⟨e₂, a₂, w₂, hq₂, .of_steps (.head step_scope (harr _ hg)) harr₂⟩
  ·simp only [gotoQ, nbeq_false e] at hq
 | ret => exact ⟨.ret, a₁, w₁, hq, .of_steps (.one step_scope) harr⟩
 | panic ch => exact hq.elim
 | outgrown => exact hq.elim
theorem gotoQ_le {l : Nat} {K : Fr → World → Prop} {Q Q' : PQ} (h : ∀ e σ w, Q e σ w → Q' e σ w) : ∀ e σ w, gotoQ l K Q e σ w → gotoQ l K Q' e σ w := by
 intro e σ w hq
 cases e <;> simp only [gotoQ] at hq ⊢
 case goto => exact hq
 all_goals exact h _ _ _ hq
theorem scope_of {P : Program} {hT : Hint} {n : Nat} {D : Nat → Option DH} {l : List (List Nat × Spec)} {c0 b b' : Code} {p pb : List Nat} {lb : Nat} {Tk : Nat → Spec} {T Tb : Spec} {lo : LO} (hm : P.follows .mixedOrders = true)
  (hL : ∀ x ∈ l, ∀ c, subC x.1 c0 = some c → Snd P n c x.2) (hp : subC p c0 = some (.scope b)) (hc : chkC D (fun p => (tab l p).isSome) (0 :: p) b = true)
  (hf : findLabel b lb = some (.seq .skip b')) (hpb : subC pb c0 = some b') (hTb : ∀ c, subC pb c0 = some c → Snd P n c Tb)
  (h0 : ∀ Q σ w, ¬ Tk 0 Q σ w) (hk : ∀ k Q σ w, Tk (k + 1) Q σ w → Tb (gotoQ lb (Tk k Q) Q) σ w)
  (h : ∀ Q σ w, T Q σ w → codeW P hT n D (tab l) (0 :: p) b (gotoQ lb (fun σ w => ∃ k, Tk k Q σ w) (widen lo Q)) σ w) : ∀ c, subC p c0 = some c → Snd P n c T := by
 intro c hc'
 obtain rfl : c = .scope b := Option.some.inj (hc'.symm.trans hp)
 refine scope_snd hf h0 (fun ds k Q σ w ht => hTb _ hpb ds _ _ _ (hk k Q σ w ht)) fun ds Q σ w ht => ?_
 refine wp_mono (codeW_sound hm (tab_snd hL) b (0 :: p) (by simp [subC, hp, child]) hc ds _ σ w (h Q σ w ht)) ?_
 exact liftQ_le (gotoQ_le widen_le)
def ldI (w : World) (a : Addr) (k : IntKind) (K : Int → Prop) : Prop := ∃ x : Int, w.cell? a = some (.int k x) ∧ K x
def ldB (w : World) (a : Addr) (K : Bool → Prop) : Prop := ∃ x : Bool, w.cell? a = some (.bool x) ∧ K x
def ldP (w : World) (a : Addr) (K : Option Addr → Prop) : Prop := ∃ x : Option Addr, w.cell? a = some (.pointer x) ∧ K x
def ldS (w : World) (a : Addr) (K : Option Addr → Nat → Nat → Prop) : Prop := ∃ (A : Option Addr) (n c : Nat), w.cell? a = some (.slice A n c) ∧ K A n c
def ldM (w : World) (a : Addr) (K : Option Nat → Prop) : Prop := ∃ x : Option Nat, w.cell? a = some (.map x) ∧ K x
def ldC (w : World) (a : Addr) (k : FloatKind) (K : Nat → Nat → Prop) : Prop := ∃ (x y : Nat), w.cell? a = some (.complex k x y) ∧ K x y
def hdI (S : World → Prop) (a : Addr) (k : IntKind) (K : Int → Prop) : Prop := ∃ x : Int, (∀ w', S w' → w'.cell? a = some (.int k x)) ∧ K x
def hdB (S : World → Prop) (a : Addr) (K : Bool → Prop) : Prop := ∃ x : Bool, (∀ w', S w' → w'.cell? a = some (.bool x)) ∧ K x
def hdP (S : World → Prop) (a : Addr) (K : Option Addr → Prop) : Prop := ∃ x : Option Addr, (∀ w', S w' → w'.cell? a = some (.pointer x)) ∧ K x
def hdS (S : World → Prop) (a : Addr) (K : Option Addr → Nat → Nat → Prop) : Prop := ∃ (A : Option Addr) (n c : Nat), (∀ w', S w' → w'.cell? a = some (.slice A n c)) ∧ K A n c
def hdM (S : World → Prop) (a : Addr) (K : Option Nat → Prop) : Prop := ∃ x : Option Nat, (∀ w', S w' → w'.cell? a = some (.map x)) ∧ K x
def hdC (S : World → Prop) (a : Addr) (k : FloatKind) (K : Nat → Nat → Prop) : Prop := ∃ (x y : Nat), (∀ w', S w' → w'.cell? a = some (.complex k x y)) ∧ K x y
def stW (w : World) (a : Addr) (v : Value) (K : World → Prop) : Prop := Wr w a ∧ K (w.setCell a v)
def alW (w : World) (o : Obj) (K : Nat → World → Prop) : Prop := K w.heap.size (w.alloc o)
def drW (w : World) (K : World → Prop) : Prop := K w.drew
def bxor (k : IntKind) (x y : Int) : Int := k.wrap ((BitVec.ofInt k.bits x ^^^ BitVec.ofInt k.bits y).toNat : Int)
def idxI (cs : Array Value) (i : Nat) (k : IntKind) (K : Int → Prop) : Prop := optB (cs[i]?) fun v => match v with | .int k' x => req (decide (k' = k)) (K x) | _ => False
end Go.Dn
namespace Go.Proofs.Ytklnlnjgaadjbaa.Rd
open Go.Dn
def hT : Hint := fun t => List.getD [
 .tup [],
 .one (.sc .any),
 .one (.sc (.int .i64)),
 .one (.sc (.int .i64)),
 .one (.sc .bool),
 .one (.sc (.int .u8)),
 .one (.sc (.int .u8)),
 .one (.agg [(.int .i64), (.int .i64), .bool, (.int .u8)]),
 .one (.agg [(.int .i64), (.int .i64), .bool, (.int .u8)]),
 .one (.sc .str),
 .one (.sc .str),
 .one (.sc .str),
 .one (.sc (.int .u64)),
 .one (.agg [.str, (.int .u64)]),
 .one (.agg [.str, (.int .u64)]),
 .one (.sc .ptr),
 .one (.sc .ptr),
 .one (.sc .ptr),
 .one (.agg [.ptr]),
 .one (.agg [.ptr]),
 .one (.sc .any),
 .one (.sc (.int .i32)),
 .one (.sc .slice),
 .one (.sc .slice),
 .one (.sc .ptr),
 .one (.sc .any),
 .one (.sc .any),
 .one (.sc .slice),
 .one (.agg [.slice, .slice]),
 .one (.agg [.slice, .slice]),
 .one (.agg [.slice, .slice, .slice, .slice]),
 .one (.agg [.slice, .slice, .slice, .slice]),
 .one (.agg [(.int .i64), (.int .i64), (.int .i64), (.int .i64)]),
 .one (.agg [(.int .i64), (.int .i64), (.int .i64), (.int .i64)]),
 .one (.agg [(.int .i64), (.int .i64), (.int .i64), (.int .i64), (.int .i64)]),
 .one (.agg [(.int .i64), (.int .i64), (.int .i64), (.int .i64), (.int .i64)]),
 .tup [(.agg [.slice, .slice, .slice, .slice]), (.sc .bool)],
 .one (.sc .any),
 .tup [(.sc (.int .i64)), (.sc (.int .i64))],
 .one (.sc .any),
 .one (.sc .any),
 .one (.sc .any),
 .one (.sc .any),
 .one (.sc (.int .i64)),
 .tup [(.sc (.int .i64)), (.sc (.int .i64))],
 .one (.sc .any),
 .tup [(.sc (.int .i64)), (.sc (.int .i64)), (.sc (.int .i64))],
 .one (.sc .any),
 .one (.sc .any),
 .one (.sc .any),
 .one (.sc .any),
 .one (.sc .any),
 .one (.sc .any),
 .tup [(.agg [.slice, .slice, .slice, .slice]), (.sc (.int .i64))],
 .one (.sc .any),
 .one (.sc .any),
 .one (.sc .any),
 .one (.sc .ptr),
 .one (.sc .any),
 .one (.agg [.ptr, (.int .i64), (.int .i64), (.int .i64)]),
 .one (.agg [.ptr, (.int .i64), (.int .i64), (.int .i64)]),
 .one (.sc .ptr),
 .one (.sc .any),
 .one (.sc .map),
 .one (.sc .map),
 .one (.agg [.ptr, .ptr, .map, .map, .slice]),
 .one (.agg [.ptr, .ptr, .map, .map, .slice]),
 .one (.sc (.cpx .f64)),
 .one (.agg [(.int .i64), (.int .i64), (.int .i64), (.int .i64), (.cpx .f64)]),
 .one (.agg [(.int .i64), (.int .i64), (.int .i64), (.int .i64), (.cpx .f64)]),
 .tup [(.agg [(.int .i64), (.int .i64), (.int .i64), (.int .i64), (.cpx .f64)]), (.sc (.int .i64))],
 .one (.sc .any),
 .one (.sc (.flt .f64)),
 .one (.sc .any),
 .one (.sc .any),
 .one (.sc .any),
 .one (.sc .any),
 .tup [(.agg [.ptr, (.int .i64), (.int .i64), (.int .i64)]), (.sc (.int .i64))],
 .one (.sc .any),
 .tup [(.agg [(.int .i64), (.int .i64), (.int .i64), (.int .i64), (.cpx .f64)]), (.sc (.int .i64))],
 .one (.sc .any),
 .one (.sc .any),
 .one (.agg [(.int .i64), (.int .i64)]),
 .one (.sc .any),
 .one (.sc .any),
 .tup [(.agg [(.int .i64), (.int .i64)]), (.sc .bool)],
 .tup [(.sc (.int .i64)), (.sc (.int .i64))],
 .one (.sc .any),
 .one (.sc .any),
 .one (.sc .any),
 .tup [(.agg [(.int .i64), (.int .i64), (.int .i64), (.int .i64)]), (.sc .bool)],
 .one (.sc .any),
 .one (.sc .slice),
 .one (.sc (.int .u64)),
 .one (.agg [.slice, .slice, (.int .u64)]),
 .one (.agg [.slice, .slice, (.int .u64)]),
 .one (.sc .slice),
 .one (.agg [.slice, .map, .map, .map, .slice]),
 .one (.agg [.slice, .map, .map, .map, .slice]),
 .tup [(.sc .slice), (.sc .bool)],
 .one (.sc .any),
 .one (.sc .any),
 .one (.sc .any),
 .one (.sc .any),
 .one (.sc .slice),
 .one (.sc .any),
 .tup [(.sc .bool), (.sc (.int .i64))],
 .one (.sc .any),
 .one (.agg [(.int .i64), (.int .i64), (.int .i64), .bool, (.int .i64), (.int .i64), (.int .i64), (.int .i64), (.int .i64), (.int .i64), (.int .i64), (.int .i64), (.cpx .f64)]),
 .one (.agg [(.int .i64), (.int .i64), (.int .i64), .bool, (.int .i64), (.int .i64), (.int .i64), (.int .i64), (.int .i64), (.int .i64), (.int .i64), (.int .i64), (.cpx .f64)]),
 .one (.sc .any),
 .one (.sc .any),
 .one (.sc .any),
 .one (.sc .any),
 .one (.sc .any),
 .one (.sc .any),
 .one (.sc .any),
 .one (.sc .any),
 .one (.sc .any),
 .one (.agg [(.int .i64), (.int .i64), (.int .i64), (.int .u64), (.int .i64), .ptr, (.int .i64), (.int .i64), (.int .i64), .ptr, (.int .i64), (.int .i64), (.int .i64)]),
 .one (.agg [(.int .i64), (.int .i64), (.int .i64), (.int .u64), (.int .i64), .ptr, (.int .i64), (.int .i64), (.int .i64), .ptr, (.int .i64), (.int .i64), (.int .i64)]),
 .one (.sc .any),
 .one (.sc .any),
 .one (.sc .slice),
 .one (.agg [.slice, .slice, .slice]),
 .one (.agg [.slice, .slice, .slice]),
 .one (.sc .any),
 .one (.sc .any),
 .one (.sc .any),
 .one (.sc .any),
 .one (.sc .ptr),
 .one (.sc .any),
 .one (.sc .ptr),
 .one (.sc .any),
 .one (.sc (.int .u64)),
 .one (.sc .any),
 .one (.sc .any),
 .one (.agg [.ptr, .ptr, .ptr, .str]),
 .one (.agg [.ptr, .ptr, .ptr, .str]),
 .one (.agg []),
 .one (.agg []),
 .one (.agg []),
 .one (.sc .any),
 .one (.sc (.int .u32)),
 .one (.sc (.int .u8)),
 .one (.sc (.int .u8)),
 .one (.sc .any),
 .one (.sc .ptr),
 .one (.sc (.int .i32)),
 .one (.sc (.int .i32)),
 .one (.agg [(.int .u64), (.int .u64), (.int .u32), (.int .u8), (.int .u8), (.int .u8), (.int .u8), .any, .ptr, (.int .i32), (.int .i32)]),
 .one (.agg [(.int .u64), (.int .u64), (.int .u32), (.int .u8), (.int .u8), (.int .u8), (.int .u8), .any, .ptr, (.int .i32), (.int .i32)]),
 .one (.sc .any),
 .one (.agg [.bool, (.int .i64)]),
 .one (.agg [.bool, (.int .i64)]),
 .one (.sc .slice),
 .one (.agg [(.int .i64), (.int .i64), (.cpx .f64), .slice]),
 .one (.agg [(.int .i64), (.int .i64), (.cpx .f64), .slice]),
 .one (.agg [.bool, (.int .i64), .str, (.int .i64), (.int .i64), (.cpx .f64), .slice]),
 .one (.agg [.bool, (.int .i64), .str, (.int .i64), (.int .i64), (.cpx .f64), .slice]),
 .one (.sc .any)
 ] t (.one (.sc .any))
end Go.Proofs.Ytklnlnjgaadjbaa.Rd
namespace Go.Proofs.Ytklnlnjgaadjbaa.Rd
open Go.Dn
set_option maxRecDepth 100000
namespace f_linkcut_New
noncomputable def body : Code := (Try.f24.body).getD .skip
def wp (w : World) (Q : Ending → World → Prop) : Prop := Runs Try.prog (Instr.makeSlice 96 (.int .i64 1) (.int .i64 1)) w fun v2 w1 => ∃ A3 n3 c3, v2 = (.slice A3 n3 c3) ∧ (alW w1 (.map #[] 0) fun B4 w5 => alW w5 (.map #[] 0) fun B6 w7 => alW w7 (.map #[] 0) fun B8 w9 => alW w9 (.cells #[.slice A3 n3 c3, .map (some B4), .map (some B6), .map (some B8), .slice none 0 0] 98) fun B10 w11 => Q (.returned (.pointer (some ⟨B10, 0, none⟩))) w11)
def D : Nat → Option DH := dtab []
def tb : List (List Nat × Spec) := []
theorem wp_eq (w : World) (Q : Ending → World → Prop) : wp w Q = codeW Try.prog hT 7 D (tab tb) [] body (topQ Try.prog hT 7 [.tmp 0] Q) (argsF []) w := by kernel_rfl
theorem ok (w : World) (Q : Ending → World → Prop) (h : wp w Q) : Calls Try.prog 24 #[] w Q := by
 rw [wp_eq] at h
 refine calls_of_codeW (c := body) (rs := [.tmp 0]) Try.func24 ?_ ?_ ?_ ?_ ?_ (tab_snd (by
  intro x hx
  simp only [tb, List.not_mem_nil] at hx
  )) ?_ h <;> kernel_rfl
end f_linkcut_New
namespace f_linkcut_Forest_Along
noncomputable def body : Code := (Try.f32.body).getD .skip
def wp (aa0 : Addr) (xa1 xa2 : Int) (w : World) (Q : Ending → World → Prop) : Prop := alW w (.cells #[.int .i64 0, .int .i64 0, .int .i64 0, .int .i64 0, .complex .f64 0 0] 69) fun B1 w2 => Calls Try.prog 53 #[.pointer (some aa0), .int .i64 xa1, .int .i64 xa2] w2 fun e3 w4 => ∃ b5_0 x5_1, e3 = .returned (.tuple #[.bool b5_0, .int .i64 x5_1]) ∧ (sel (x5_1 != 0) (stW w4 ⟨B1, 0, none⟩ (.int .i64 0) fun w6 => stW w6 (.add ⟨B1, 0, none⟩ 1) (.int .i64 0) fun w7 => stW w7 (.add ⟨B1, 0, none⟩ 2) (.int .i64 0) fun w8 => stW w8 (.add ⟨B1, 0, none⟩ 3) (.int .i64 0) fun w9 => stW w9 (.add ⟨B1, 0, none⟩ 4) (.complex .f64 0 0) fun w10 => ldI w10 ⟨B1, 0, none⟩ .i64 fun x11 => ldI w10 (.add ⟨B1, 0, none⟩ 1) .i64 fun x12 => ldI w10 (.add ⟨B1, 0, none⟩ 2) .i64 fun x13 => ldI w10 (.add ⟨B1, 0, none⟩ 3) .i64 fun x14 => ldC w10 (.add ⟨B1, 0, none⟩ 4) .f64 fun r15 i15 => Q (.returned (.tuple #[.agg #[.int .i64 x11, .int .i64 x12, .int .i64 x13, .int .i64 x14, .complex .f64 r15 i15], .int .i64 x5_1])) w10) (sel (!b5_0) (stW w4 ⟨B1, 0, none⟩ (.int .i64 0) fun w16 => stW w16 (.add ⟨B1, 0, none⟩ 1) (.int .i64 0) fun w17 => stW w17 (.add ⟨B1, 0, none⟩ 2) (.int .i64 0) fun w18 => stW w18 (.add ⟨B1, 0, none⟩ 3) (.int .i64 0) fun w19 => stW w19 (.add ⟨B1, 0, none⟩ 4) (.complex .f64 0 0) fun w20 => ldI w20 ⟨B1, 0, none⟩ .i64 fun x21 => ldI w20 (.add ⟨B1, 0, none⟩ 1) .i64 fun x22 => ldI w20 (.add ⟨B1, 0, none⟩ 2) .i64 fun x23 => ldI w20 (.add ⟨B1, 0, none⟩ 3) .i64 fun x24 => ldC w20 (.add ⟨B1, 0, none⟩ 4) .f64 fun r25 i25 => Q (.returned (.tuple #[.agg #[.int .i64 x21, .int .i64 x22, .int .i64 x23, .int .i64 x24, .complex .f64 r25 i25], .int .i64 61])) w20) (ldM w4 (aa0.add 1) fun m26 => Runs Try.prog (Instr.lookup 63 (.map m26) (.int .i64 xa1) false) w4 fun v28 w27 => ∃ x29, v28 = (.int .i64 x29) ∧ (Calls Try.prog 54 #[.pointer (some aa0), .int .i64 x29] w27 fun e30 w31 => e30 = .returned (.tuple #[]) ∧ (ldM w31 (aa0.add 1) fun m32 => Runs Try.prog (Instr.lookup 63 (.map m32) (.int .i64 xa2) false) w31 fun v34 w33 => ∃ x35, v34 = (.int .i64 x35) ∧ (Calls Try.prog 55 #[.pointer (some aa0), .int .i64 x35] w33 fun e36 w37 => e36 = .returned (.tuple #[]) ∧ (drW w37 fun w38 => ∃ S39 : World → Prop, S39 w38 ∧ (hdS S39 aa0 fun A40 n40 c40 => hdM S39 (aa0.add 1) fun m41 => Runs Try.prog (Instr.lookup 63 (.map m41) (.int .i64 xa2) false) w38 fun v43 w42 => ∃ x44, v43 = (.int .i64 x44) ∧ (S39 w42 ∧ (optB A40 fun a45 => req (decide (0 ≤ x44 ∧ x44 < (n40 : Int))) <| hdI S39 ((a45.add (x44.toNat * 13)).add 8) .i64 fun x46 => hdI S39 (((a45.add (x44.toNat * 13)).add 8).add 1) .i64 fun x47 => hdI S39 (((a45.add (x44.toNat * 13)).add 8).add 2) .i64 fun x48 => hdI S39 (((a45.add (x44.toNat * 13)).add 8).add 3) .i64 fun x49 => hdC S39 (((a45.add (x44.toNat * 13)).add 8).add 4) .f64 fun r50 i50 => stW w42 ⟨B1, 0, none⟩ (.int .i64 x46) fun w51 => stW w51 (.add ⟨B1, 0, none⟩ 1) (.int .i64 x47) fun w52 => stW w52 (.add ⟨B1, 0, none⟩ 2) (.int .i64 x48) fun w53 => stW w53 (.add ⟨B1, 0, none⟩ 3) (.int .i64 x49) fun w54 => stW w54 (.add ⟨B1, 0, none⟩ 4) (.complex .f64 r50 i50) fun w55 => ldI w55 ⟨B1, 0, none⟩ .i64 fun x56 => ldI w55 (.add ⟨B1, 0, none⟩ 1) .i64 fun x57 => ldI w55 (.add ⟨B1, 0, none⟩ 2) .i64 fun x58 => ldI w55 (.add ⟨B1, 0, none⟩ 3) .i64 fun x59 => ldC w55 (.add ⟨B1, 0, none⟩ 4) .f64 fun r60 i60 => Q (.returned (.tuple #[.agg #[.int .i64 x56, .int .i64 x57, .int .i64 x58, .int .i64 x59, .complex .f64 r60 i60], .int .i64 0])) w55))))))))))
def D : Nat → Option DH := dtab [(8, .held [.fst 0, .fst 1, .fst 2, .fst 3, .fst 4, .fst 5, .fst 6, .fst 7, .fst 8, .eff 9, .fst 10, .fst 11, .fst 12] [.eff 13, .fst 14])]
def tb : List (List Nat × Spec) := []
variable (aa0 : Addr) (xa1 xa2 : Int) (w : World) (Q : Ending → World → Prop)
theorem wp_eq : wp aa0 xa1 xa2 w Q = codeW Try.prog hT 55 D (tab tb) [] body (topQ Try.prog hT 55 [.cell 6 69, .tmp 7] Q) (argsF [.pointer (some aa0), .int .i64 xa1, .int .i64 xa2]) w := by kernel_rfl
theorem ok (h : wp aa0 xa1 xa2 w Q) : Calls Try.prog 32 #[.pointer (some aa0), .int .i64 xa1, .int .i64 xa2] w Q := by
 rw [wp_eq] at h
 refine calls_of_codeW (c := body) (rs := [.cell 6 69, .tmp 7]) Try.func32 ?_ ?_ ?_ ?_ ?_ (tab_snd (by
  intro x hx
  simp only [tb, List.not_mem_nil] at hx
  )) ?_ h <;> kernel_rfl
end f_linkcut_Forest_Along
namespace f_linkcut_Forest_Link
noncomputable def body : Code := (Try.f33.body).getD .skip
def od1 : OD := ⟨[0, 3], [3, 5, 6, 10, 12, 13], fun i => ([⟨false, [], [], fun ps vs => match ps, vs with | [.pointer (some ap0), .pointer (some ap3)], [] => .pointer (some ap0) | _, _ => undef⟩,
 ⟨false, [], [0], fun ps vs => match ps, vs with | [.pointer (some ap0), .pointer (some ap3)], [] => .pointer (some ap0) | _, _ => undef⟩,
 ⟨false, [], [1], fun ps vs => match ps, vs with | [.pointer (some ap0), .pointer (some ap3)], [] => .pointer (some (ap0.add 1)) | _, _ => undef⟩,
 ⟨true, [], [2], fun _ _ => undef⟩,
 ⟨false, [], [], fun ps vs => match ps, vs with | [.pointer (some ap0), .pointer (some ap3)], [] => .pointer (some (ap3.add 1)) | _, _ => undef⟩,
 ⟨true, [], [4], fun _ _ => undef⟩,
 ⟨true, [3, 5], [3, 5], fun _ _ => undef⟩,
 ⟨false, [], [], fun ps vs => match ps, vs with | [.pointer (some ap0), .pointer (some ap3)], [] => .pointer (some ap0) | _, _ => undef⟩,
 ⟨false, [], [7], fun ps vs => match ps, vs with | [.pointer (some ap0), .pointer (some ap3)], [] => .pointer (some ap0) | _, _ => undef⟩,
 ⟨false, [], [8], fun ps vs => match ps, vs with | [.pointer (some ap0), .pointer (some ap3)], [] => .pointer (some (ap0.add 1)) | _, _ => undef⟩,
 ⟨true, [], [9], fun _ _ => undef⟩,
 ⟨false, [], [], fun ps vs => match ps, vs with | [.pointer (some ap0), .pointer (some ap3)], [] => .pointer (some (ap3.add 2)) | _, _ => undef⟩,
 ⟨true, [], [11], fun _ _ => undef⟩,
 ⟨true, [10, 12], [10, 12], fun _ _ => undef⟩,
 ⟨false, [3, 5, 6], [6], fun ps vs => match ps, vs with | [.pointer (some ap0), .pointer (some ap3)], [.map me3, .int _ xe5, .int _ xe6] => .int .i64 xe6 | _, _ => undef⟩,
 ⟨false, [3, 5, 6, 10, 12, 13], [13], fun ps vs => match ps, vs with | [.pointer (some ap0), .pointer (some ap3)], [.map me3, .int _ xe5, .int _ xe6, .map me10, .int _ xe12, .int _ xe13] => .int .i64 xe13 | _, _ => undef⟩] : List OI).getD i ⟨true, [], [], fun _ _ => undef⟩, fun i => ([.one (.sc .any), .one (.sc .any), .one (.sc .any), (.one (.sc .map)), .one (.sc .any), (.one (.sc (.int .i64))), (.one (.sc (.int .i64))), .one (.sc .any), .one (.sc .any), .one (.sc .any), (.one (.sc .map)), .one (.sc .any), (.one (.sc (.int .i64))), (.one (.sc (.int .i64))), .one (.sc .any), .one (.sc .any)] : List OS).getD i (.one (.sc .any))⟩
def h1 (ap0 ap3 : Addr) : Prop := (∀ (_ : Fr) (w : World), w = w ∧ (.pointer (some ap0) : Value) = (.pointer (some ap0))) ∧ (∀ (_ : Fr) (w : World), w = w ∧ (.pointer (some ap0) : Value) = (.pointer (some ap0))) ∧ (∀ (_ : Fr) (w : World), w = w ∧ (.pointer (some (ap0.add 1)) : Value) = (.pointer (some (ap0.add 1)))) ∧ (∀ (_ : Fr) (w : World), w = w ∧ (.pointer (some (ap3.add 1)) : Value) = (.pointer (some (ap3.add 1)))) ∧ (∀ (_ : Fr) (w : World), w = w ∧ (.pointer (some ap0) : Value) = (.pointer (some ap0))) ∧ (∀ (_ : Fr) (w : World), w = w ∧ (.pointer (some ap0) : Value) = (.pointer (some ap0))) ∧ (∀ (_ : Fr) (w : World), w = w ∧ (.pointer (some (ap0.add 1)) : Value) = (.pointer (some (ap0.add 1)))) ∧ (∀ (_ : Fr) (w : World), w = w ∧ (.pointer (some (ap3.add 2)) : Value) = (.pointer (some (ap3.add 2)))) ∧ (∀ (_ : Fr) (w : World), ∀ (me3 : Option Nat), ∀ (xe5 : Int), ∀ (xe6 : Int), w = w ∧ (.int .i64 xe6 : Value) = (.int .i64 xe6)) ∧ (∀ (_ : Fr) (w : World), ∀ (me3 : Option Nat), ∀ (xe5 : Int), ∀ (xe6 : Int), ∀ (me10 : Option Nat), ∀ (xe12 : Int), ∀ (xe13 : Int), w = w ∧ (.int .i64 xe13 : Value) = (.int .i64 xe13)) ∧ True
theorem h1_ok (ap0 ap3 : Addr) : h1 ap0 ap3 := ⟨fun _ w => ⟨rfl, rfl⟩, fun _ w => ⟨rfl, rfl⟩, fun _ w => ⟨rfl, rfl⟩, fun _ w => ⟨rfl, rfl⟩, fun _ w => ⟨rfl, rfl⟩, fun _ w => ⟨rfl, rfl⟩, fun _ w => ⟨rfl, rfl⟩, fun _ w => ⟨rfl, rfl⟩, fun _ w _ _ _ => ⟨rfl, rfl⟩, fun _ w _ _ _ _ _ _ => ⟨rfl, rfl⟩, trivial⟩
def j0 (at0 at3 : Addr) (xt5 xt6 : Int) (w : World) (Kr : Int → World → Prop) : Prop := ldI w at3 .i64 fun x47 => ldI w (at3.add 1) .i64 fun x48 => ldI w (at3.add 2) .i64 fun x49 => ldI w (at3.add 3) .i64 fun x50 => Calls Try.prog 58 #[.pointer (some at0), .agg #[.int .i64 x47, .int .i64 x48, .int .i64 x49, .int .i64 x50]] w fun e51 w52 => ∃ x53, e51 = .returned (.int .i64 x53) ∧ (drW w52 fun w54 => ldM w54 (at0.add 2) fun m56 => ldI w54 at3 .i64 fun x57 => Runs Try.prog (Instr.mapUpdate 63 (.map m56) (.int .i64 x57) (.int .i64 x53)) w54 fun _ w58 => Calls Try.prog 54 #[.pointer (some at0), .int .i64 xt5] w58 fun e59 w60 => e59 = .returned (.tuple #[]) ∧ (ldS w60 at0 fun A61 n61 c61 => optB A61 fun a62 => req (decide (0 ≤ xt5 ∧ xt5 < (n61 : Int))) <| stW w60 ((a62.add (xt5.toNat * 13)).add 2) (.int .i64 x53) fun w63 => Calls Try.prog 54 #[.pointer (some at0), .int .i64 x53] w63 fun e64 w65 => e64 = .returned (.tuple #[]) ∧ (ldS w65 at0 fun A66 n66 c66 => optB A66 fun a67 => req (decide (0 ≤ x53 ∧ x53 < (n66 : Int))) <| stW w65 ((a67.add (x53.toNat * 13)).add 2) (.int .i64 xt6) fun w68 => drW w68 fun w69 => ldM w69 (at0.add 3) fun m71 => ldI w69 (at3.add 1) .i64 fun x72 => Runs Try.prog (Instr.lookup 63 (.map m71) (.int .i64 x72) false) w69 fun v74 w73 => ∃ x75, v74 = (.int .i64 x75) ∧ (Runs Try.prog (Instr.mapUpdate 63 (.map m71) (.int .i64 x72) (.int .i64 (IntKind.i64.wrap (x75 + 1)))) w73 fun _ w76 => drW w76 fun w77 => ldM w77 (at0.add 3) fun m79 => ldI w77 (at3.add 2) .i64 fun x80 => Runs Try.prog (Instr.lookup 63 (.map m79) (.int .i64 x80) false) w77 fun v82 w81 => ∃ x83, v82 = (.int .i64 x83) ∧ (Runs Try.prog (Instr.mapUpdate 63 (.map m79) (.int .i64 x80) (.int .i64 (IntKind.i64.wrap (x83 + 1)))) w81 fun _ w84 => Kr 0 w84)))))
def wp (aa0 : Addr) (xa1_0 xa1_1 xa1_2 xa1_3 : Int) (w : World) (Q : Ending → World → Prop) : Prop := alW w (.cells #[.int .i64 xa1_0, .int .i64 xa1_1, .int .i64 xa1_2, .int .i64 xa1_3] 33) fun B1 w2 => drW w2 fun w3 => h1 aa0 ⟨B1, 0, none⟩ ∧ ∃ (G4 : World → World → Prop) (Φ5 : Nat → Value → World → Prop), (∀ w, G4 w w) ∧ (∀ a b c, G4 a b → G4 b c → G4 a c) ∧ (∀ i v a b, G4 w3 a → G4 a b → Φ5 i v a → Φ5 i v b) ∧ ((∀ (_ : Fr) (w6 : World), G4 w3 w6 → (ldM w6 (aa0.add 1) fun m7 => G4 w6 w6 ∧ Φ5 3 (.map m7) w6)) ∧ (∀ (_ : Fr) (w8 : World), G4 w3 w8 → (ldI w8 (.add ⟨B1, 0, none⟩ 1) .i64 fun x9 => G4 w8 w8 ∧ Φ5 5 (.int .i64 x9) w8)) ∧ (∀ (_ : Fr) (w10 : World), G4 w3 w10 → ∀ (me3 : Option Nat), Φ5 3 (.map me3) w10 → ∀ (xe5 : Int), Φ5 5 (.int .i64 xe5) w10 → (Runs Try.prog (Instr.lookup 63 (.map me3) (.int .i64 xe5) false) w10 fun v12 w11 => ∃ x13, v12 = (.int .i64 x13) ∧ (G4 w10 w11 ∧ Φ5 6 (.int .i64 x13) w11))) ∧ (∀ (_ : Fr) (w14 : World), G4 w3 w14 → (ldM w14 (aa0.add 1) fun m15 => G4 w14 w14 ∧ Φ5 10 (.map m15) w14)) ∧ (∀ (_ : Fr) (w16 : World), G4 w3 w16 → (ldI w16 (.add ⟨B1, 0, none⟩ 2) .i64 fun x17 => G4 w16 w16 ∧ Φ5 12 (.int .i64 x17) w16)) ∧ (∀ (_ : Fr) (w18 : World), G4 w3 w18 → ∀ (me10 : Option Nat), Φ5 10 (.map me10) w18 → ∀ (xe12 : Int), Φ5 12 (.int .i64 xe12) w18 → (Runs Try.prog (Instr.lookup 63 (.map me10) (.int .i64 xe12) false) w18 fun v20 w19 => ∃ x21, v20 = (.int .i64 x21) ∧ (G4 w18 w19 ∧ Φ5 13 (.int .i64 x21) w19))) ∧ True) ∧ ∀ w22, G4 w3 w22 → ∀ (me3 : Option Nat), Φ5 3 (.map me3) w22 → ∀ (xe5 : Int), Φ5 5 (.int .i64 xe5) w22 → ∀ (xe6 : Int), Φ5 6 (.int .i64 xe6) w22 → ∀ (me10 : Option Nat), Φ5 10 (.map me10) w22 → ∀ (xe12 : Int), Φ5 12 (.int .i64 xe12) w22 → ∀ (xe13 : Int), Φ5 13 (.int .i64 xe13) w22 → (ldI w22 ⟨B1, 0, none⟩ .i64 fun x23 => Calls Try.prog 56 #[.int .i64 x23] w22 fun e24 w25 => ∃ b26, e24 = .returned (.bool b26) ∧ (sel b26 (Q (.returned (.int .i64 1)) w25) (ldI w25 (.add ⟨B1, 0, none⟩ 1) .i64 fun x27 => Calls Try.prog 56 #[.int .i64 x27] w25 fun e28 w29 => ∃ b30, e28 = .returned (.bool b30) ∧ (sel b30 (Q (.returned (.int .i64 1)) w29) (ldI w29 (.add ⟨B1, 0, none⟩ 2) .i64 fun x31 => Calls Try.prog 56 #[.int .i64 x31] w29 fun e32 w33 => ∃ b34, e32 = .returned (.bool b34) ∧ (sel b34 (Q (.returned (.int .i64 1)) w33) (ldI w33 (.add ⟨B1, 0, none⟩ 3) .i64 fun x35 => sel (decide (x35 < 0)) (Q (.returned (.int .i64 53)) w33) (ldI w33 (.add ⟨B1, 0, none⟩ 3) .i64 fun x36 => sel (decide (x36 > 1099511627776)) (Q (.returned (.int .i64 53)) w33) (drW w33 fun w37 => ldM w37 (aa0.add 2) fun m39 => ldI w37 ⟨B1, 0, none⟩ .i64 fun x40 => Runs Try.prog (Instr.lookup 63 (.map m39) (.int .i64 x40) false) w37 fun v42 w41 => ∃ x43, v42 = (.int .i64 x43) ∧ (sel (decide (x43 > 0)) (Q (.returned (.int .i64 50)) w41) (sel (xe6 == 0) (Q (.returned (.int .i64 51)) w41) (sel (xe13 == 0) (Q (.returned (.int .i64 51)) w41) (Calls Try.prog 57 #[.pointer (some aa0), .int .i64 xe6, .int .i64 xe13] w41 fun e44 w45 => ∃ b46, e44 = .returned (.bool b46) ∧ (sel b46 (Q (.returned (.int .i64 151)) w45) (j0 aa0 ⟨B1, 0, none⟩ xe6 xe13 w45 (fun x85 w86 => ∀ _ : Fr, Q (.returned (.int .i64 x85)) w86))))))))))))))))
def D : Nat → Option DH := dtab [(1, .opn od1), (6, .simple [.fst 0, .fst 1, .fst 2, .fst 3, .fst 4, .fst 5] [.eff 6, .fst 7, .fst 8]), (13, .simple [.fst 0, .fst 1, .fst 2, .fst 3, .fst 4, .fst 5, .fst 6] [.eff 7]), (18, .simple [.fst 0, .fst 1, .fst 2, .fst 3, .fst 4, .fst 5] [.eff 6, .fst 7, .eff 8]), (19, .simple [.fst 0, .fst 1, .fst 2, .fst 3, .fst 4, .fst 5] [.eff 6, .fst 7, .eff 8])]
def j0LO : LO := ⟨[], [4], [], []⟩
def j0T : Spec := fun Q σ w => gAd (σ 0) fun at0 => gAd (σ 3) fun at3 => gInt .i64 (σ 5) fun xt5 => gInt .i64 (σ 6) fun xt6 => j0 at0 at3 xt5 xt6 w (fun xq4 w => ∀ d : Fr, Q .ret (ov d [(4, .int .i64 xq4)]) w)
def j0tb : List (List Nat × Spec) := []
noncomputable def j0b : Code := (subC [1, 1, 1] body).getD .skip
theorem j0_eq (at0 at3 : Addr) (xt5 xt6 : Int) (Q : PQ) (σ : Fr) (w : World) : j0 at0 at3 xt5 xt6 w (fun xq4 w => ∀ d : Fr, Q .ret (ov d [(4, .int .i64 xq4)]) w) = codeW Try.prog hT 114 D (tab j0tb) [1, 1, 1] j0b (widen j0LO Q) (ov σ [(0, .pointer (some at0)), (3, .pointer (some at3)), (5, .int .i64 xt5), (6, .int .i64 xt6)]) w := by kernel_rfl
theorem j0_snd : ∀ c, subC [1, 1, 1] body = some c → Snd Try.prog 114 c j0T := by
 refine cut_of (hT := hT) (D := D) (l := j0tb) (b := j0b) (lo := j0LO) (by kernel_rfl) (by
  intro x hx
  simp only [j0tb, List.not_mem_nil] at hx
  ) (by kernel_rfl) (by kernel_rfl) ?_
 intro Q σ w h
 unfold j0T at h
 obtain ⟨at0, h0, h⟩ := gAd_elim h
 obtain ⟨at3, h3, h⟩ := gAd_elim h
 obtain ⟨xt5, h5, h⟩ := gInt_elim h
 obtain ⟨xt6, h6, h⟩ := gInt_elim h
 rw [j0_eq (σ := σ)] at h
 have e : (ov σ [(0, .pointer (some at0)), (3, .pointer (some at3)), (5, .int .i64 xt5), (6, .int .i64 xt6)]) = σ := ov_self (by simp [h0, h3, h5, h6])
 rw [e] at h
 exact h
def tb : List (List Nat × Spec) := [([1, 1, 1], j0T)]
variable (aa0 : Addr) (xa1_0 xa1_1 xa1_2 xa1_3 : Int) (w : World) (Q : Ending → World → Prop)
theorem wp_eq : wp aa0 xa1_0 xa1_1 xa1_2 xa1_3 w Q = codeW Try.prog hT 114 D (tab tb) [] body (topQ Try.prog hT 114 [.tmp 4] Q) (argsF [.pointer (some aa0), .agg #[.int .i64 xa1_0, .int .i64 xa1_1, .int .i64 xa1_2, .int .i64 xa1_3]]) w := by kernel_rfl
theorem ok (h : wp aa0 xa1_0 xa1_1 xa1_2 xa1_3 w Q) : Calls Try.prog 33 #[.pointer (some aa0), .agg #[.int .i64 xa1_0, .int .i64 xa1_1, .int .i64 xa1_2, .int .i64 xa1_3]] w Q := by
 rw [wp_eq] at h
 refine calls_of_codeW (c := body) (rs := [.tmp 4]) Try.func33 ?_ ?_ ?_ ?_ ?_ (tab_snd (by
  intro x hx
  simp only [tb, List.mem_cons, List.not_mem_nil, or_false] at hx
  subst hx
  exact j0_snd)) ?_ h <;> kernel_rfl
end f_linkcut_Forest_Link
namespace f_linkcut_Forest_Cut
noncomputable def body : Code := (Try.f37.body).getD .skip
def j0 (at0 at6 : Addr) (w : World) (Kr : Int → World → Prop) : Prop := drW w fun w48 => ldM w48 (at0.add 3) fun m50 => ldI w48 (at6.add 1) .i64 fun x51 => Runs Try.prog (Instr.lookup 63 (.map m50) (.int .i64 x51) false) w48 fun v53 w52 => ∃ x54, v53 = (.int .i64 x54) ∧ (Runs Try.prog (Instr.mapUpdate 63 (.map m50) (.int .i64 x51) (.int .i64 (IntKind.i64.wrap (x54 - 1)))) w52 fun _ w55 => drW w55 fun w56 => ldM w56 (at0.add 3) fun m58 => ldI w56 (at6.add 2) .i64 fun x59 => Runs Try.prog (Instr.lookup 63 (.map m58) (.int .i64 x59) false) w56 fun v61 w60 => ∃ x62, v61 = (.int .i64 x62) ∧ (Runs Try.prog (Instr.mapUpdate 63 (.map m58) (.int .i64 x59) (.int .i64 (IntKind.i64.wrap (x62 - 1)))) w60 fun _ w63 => Kr 0 w63))
def wp (aa0 : Addr) (xa1 : Int) (w : World) (Q : Ending → World → Prop) : Prop := ldM w (aa0.add 2) fun m1 => Runs Try.prog (Instr.lookup 63 (.map m1) (.int .i64 xa1) false) w fun v3 w2 => ∃ x4, v3 = (.int .i64 x4) ∧ (Calls Try.prog 56 #[.int .i64 xa1] w2 fun e5 w6 => ∃ b7, e5 = .returned (.bool b7) ∧ (sel b7 (Q (.returned (.int .i64 1)) w6) (sel (x4 == 0) (Q (.returned (.int .i64 152)) w6) (ldS w6 aa0 fun A8 n8 c8 => optB A8 fun a9 => req (decide (0 ≤ x4 ∧ x4 < (n8 : Int))) <| ldI w6 ((a9.add (x4.toNat * 13)).add 4) .i64 fun x10 => ldI w6 (((a9.add (x4.toNat * 13)).add 4).add 1) .i64 fun x11 => ldI w6 (((a9.add (x4.toNat * 13)).add 4).add 2) .i64 fun x12 => ldI w6 (((a9.add (x4.toNat * 13)).add 4).add 3) .i64 fun x13 => alW w6 (.cells #[.int .i64 0, .int .i64 0, .int .i64 0, .int .i64 0] 33) fun B14 w15 => stW w15 ⟨B14, 0, none⟩ (.int .i64 x10) fun w16 => stW w16 (.add ⟨B14, 0, none⟩ 1) (.int .i64 x11) fun w17 => stW w17 (.add ⟨B14, 0, none⟩ 2) (.int .i64 x12) fun w18 => stW w18 (.add ⟨B14, 0, none⟩ 3) (.int .i64 x13) fun w19 => drW w19 fun w20 => ∃ S21 : World → Prop, S21 w20 ∧ (hdM S21 (aa0.add 1) fun m22 => hdI S21 (.add ⟨B14, 0, none⟩ 1) .i64 fun x23 => Runs Try.prog (Instr.lookup 63 (.map m22) (.int .i64 x23) false) w20 fun v25 w24 => ∃ x26, v25 = (.int .i64 x26) ∧ (S21 w24 ∧ (Calls Try.prog 65 #[.pointer (some aa0), .int .i64 x26, .int .i64 x4] w24 fun e27 w28 => e27 = .returned (.tuple #[]) ∧ (drW w28 fun w29 => ∃ S30 : World → Prop, S30 w29 ∧ (hdM S30 (aa0.add 1) fun m31 => hdI S30 (.add ⟨B14, 0, none⟩ 2) .i64 fun x32 => Runs Try.prog (Instr.lookup 63 (.map m31) (.int .i64 x32) false) w29 fun v34 w33 => ∃ x35, v34 = (.int .i64 x35) ∧ (S30 w33 ∧ (Calls Try.prog 65 #[.pointer (some aa0), .int .i64 x35, .int .i64 x4] w33 fun e36 w37 => e36 = .returned (.tuple #[]) ∧ (ldS w37 (aa0.add 4) fun A38 n38 c38 => alW w37 (.cells #[.int .i64 x4] 3) fun B39 w40 => Runs Try.prog (Builtin.append_ #[22, 22] 22 #[.slice A38 n38 c38, .slice (some ⟨B39, 0, none⟩) 1 1]) w40 fun v42 w41 => ∃ A43 n43 c43, v42 = (.slice A43 n43 c43) ∧ (stW w41 (aa0.add 4) (.slice A43 n43 c43) fun w44 => ldM w44 (aa0.add 2) fun m45 => Runs Try.prog (Builtin.delete_ #[63, 3] 0 #[.map m45, .int .i64 xa1]) w44 fun v47 w46 => v47 = (.tuple #[]) ∧ (j0 aa0 ⟨B14, 0, none⟩ w46 (fun x64 w65 => ∀ _ : Fr, Q (.returned (.int .i64 x64)) w65)))))))))))))))
def D : Nat → Option DH := dtab [(7, .held [.fst 0, .fst 1, .fst 2, .fst 3, .fst 4, .fst 5, .fst 6, .fst 8, .eff 7] [.eff 9]), (8, .held [.fst 0, .fst 1, .fst 2, .fst 3, .fst 4, .fst 5, .fst 6, .fst 8, .eff 7] [.eff 9]), (11, .simple [.fst 0, .fst 1, .fst 2, .fst 3, .fst 4, .fst 5] [.eff 6, .fst 7, .eff 8]), (12, .simple [.fst 0, .fst 1, .fst 2, .fst 3, .fst 4, .fst 5] [.eff 6, .fst 7, .eff 8])]
def j0LO : LO := ⟨[], [4], [], []⟩
def j0T : Spec := fun Q σ w => gAd (σ 0) fun at0 => gAd (σ 6) fun at6 => j0 at0 at6 w (fun xq4 w => ∀ d : Fr, Q .ret (ov d [(4, .int .i64 xq4)]) w)
def j0tb : List (List Nat × Spec) := []
noncomputable def j0b : Code := (subC [1, 1, 1, 1, 1, 1, 1, 1] body).getD .skip
theorem j0_eq (at0 at6 : Addr) (Q : PQ) (σ : Fr) (w : World) : j0 at0 at6 w (fun xq4 w => ∀ d : Fr, Q .ret (ov d [(4, .int .i64 xq4)]) w) = codeW Try.prog hT 78 D (tab j0tb) [1, 1, 1, 1, 1, 1, 1, 1] j0b (widen j0LO Q) (ov σ [(0, .pointer (some at0)), (6, .pointer (some at6))]) w := by kernel_rfl
theorem j0_snd : ∀ c, subC [1, 1, 1, 1, 1, 1, 1, 1] body = some c → Snd Try.prog 78 c j0T := by
 refine cut_of (hT := hT) (D := D) (l := j0tb) (b := j0b) (lo := j0LO) (by kernel_rfl) (by
  intro x hx
  simp only [j0tb, List.not_mem_nil] at hx
  ) (by kernel_rfl) (by kernel_rfl) ?_
 intro Q σ w h
 unfold j0T at h
 obtain ⟨at0, h0, h⟩ := gAd_elim h
 obtain ⟨at6, h6, h⟩ := gAd_elim h
 rw [j0_eq (σ := σ)] at h
 have e : (ov σ [(0, .pointer (some at0)), (6, .pointer (some at6))]) = σ := ov_self (by simp [h0, h6])
 rw [e] at h
 exact h
def tb : List (List Nat × Spec) := [([1, 1, 1, 1, 1, 1, 1, 1], j0T)]
variable (aa0 : Addr) (xa1 : Int) (w : World) (Q : Ending → World → Prop)
theorem wp_eq : wp aa0 xa1 w Q = codeW Try.prog hT 78 D (tab tb) [] body (topQ Try.prog hT 78 [.tmp 4] Q) (argsF [.pointer (some aa0), .int .i64 xa1]) w := by kernel_rfl
theorem ok (h : wp aa0 xa1 w Q) : Calls Try.prog 37 #[.pointer (some aa0), .int .i64 xa1] w Q := by
 rw [wp_eq] at h
 refine calls_of_codeW (c := body) (rs := [.tmp 4]) Try.func37 ?_ ?_ ?_ ?_ ?_ (tab_snd (by
  intro x hx
  simp only [tb, List.mem_cons, List.not_mem_nil, or_false] at hx
  subst hx
  exact j0_snd)) ?_ h <;> kernel_rfl
end f_linkcut_Forest_Cut
namespace f_linkcut_Forest_AddV
noncomputable def body : Code := (Try.f45.body).getD .skip
def wp (aa0 : Addr) (xa1 : Int) (w : World) (Q : Ending → World → Prop) : Prop := Calls Try.prog 56 #[.int .i64 xa1] w fun e1 w2 => ∃ b3, e1 = .returned (.bool b3) ∧ (sel b3 (Q (.returned (.int .i64 1)) w2) (ldM w2 (aa0.add 1) fun m4 => Runs Try.prog (Instr.lookup 63 (.map m4) (.int .i64 xa1) false) w2 fun v6 w5 => ∃ x7, v6 = (.int .i64 x7) ∧ (sel (decide (x7 > 0)) (Q (.returned (.int .i64 50)) w5) (ldM w5 (aa0.add 1) fun m8 => Runs Try.prog (Builtin.len_ #[63] 3 #[.map m8]) w5 fun v10 w9 => ∃ x11, v10 = (.int .i64 x11) ∧ (sel (decide (x11 ≥ 2048)) (Q (.returned (.int .i64 55)) w9) (drW w9 fun w12 => ∃ S13 : World → Prop, S13 w12 ∧ (hdM S13 (aa0.add 1) fun m14 => Calls Try.prog 58 #[.pointer (some aa0), .agg #[.int .i64 0, .int .i64 0, .int .i64 0, .int .i64 0]] w12 fun e15 w16 => ∃ x17, e15 = .returned (.int .i64 x17) ∧ (S13 w16 ∧ (Runs Try.prog (Instr.mapUpdate 63 (.map m14) (.int .i64 xa1) (.int .i64 x17)) w16 fun _ w18 => Q (.returned (.int .i64 0)) w18)))))))))
def D : Nat → Option DH := dtab [(7, .held [.fst 0, .fst 1, .fst 2, .fst 3, .fst 4, .fst 5, .fst 6, .eff 7] [.eff 8])]
def tb : List (List Nat × Spec) := []
variable (aa0 : Addr) (xa1 : Int) (w : World) (Q : Ending → World → Prop)
theorem wp_eq : wp aa0 xa1 w Q = codeW Try.prog hT 31 D (tab tb) [] body (topQ Try.prog hT 31 [.tmp 4] Q) (argsF [.pointer (some aa0), .int .i64 xa1]) w := by kernel_rfl
theorem ok (h : wp aa0 xa1 w Q) : Calls Try.prog 45 #[.pointer (some aa0), .int .i64 xa1] w Q := by
 rw [wp_eq] at h
 refine calls_of_codeW (c := body) (rs := [.tmp 4]) Try.func45 ?_ ?_ ?_ ?_ ?_ (tab_snd (by
  intro x hx
  simp only [tb, List.not_mem_nil] at hx
  )) ?_ h <;> kernel_rfl
end f_linkcut_Forest_AddV
namespace f_linkcut_Forest_DelV
noncomputable def body : Code := (Try.f46.body).getD .skip
def wp (aa0 : Addr) (xa1 : Int) (w : World) (Q : Ending → World → Prop) : Prop := Calls Try.prog 56 #[.int .i64 xa1] w fun e1 w2 => ∃ b3, e1 = .returned (.bool b3) ∧ (sel b3 (Q (.returned (.int .i64 1)) w2) (ldM w2 (aa0.add 1) fun m4 => Runs Try.prog (Instr.lookup 63 (.map m4) (.int .i64 xa1) false) w2 fun v6 w5 => ∃ x7, v6 = (.int .i64 x7) ∧ (sel (x7 == 0) (Q (.returned (.int .i64 51)) w5) (ldM w5 (aa0.add 3) fun m8 => Runs Try.prog (Instr.lookup 63 (.map m8) (.int .i64 xa1) false) w5 fun v10 w9 => ∃ x11, v10 = (.int .i64 x11) ∧ (sel (decide (x11 > 0)) (Q (.returned (.int .i64 52)) w9) (drW w9 fun w12 => ∃ S13 : World → Prop, S13 w12 ∧ (hdS S13 (aa0.add 4) fun A14 n14 c14 => hdM S13 (aa0.add 1) fun m15 => Runs Try.prog (Instr.lookup 63 (.map m15) (.int .i64 xa1) false) w12 fun v17 w16 => ∃ x18, v17 = (.int .i64 x18) ∧ (S13 w16 ∧ (alW w16 (.cells #[.int .i64 x18] 3) fun B19 w20 => S13 w20 ∧ (Runs Try.prog (Builtin.append_ #[22, 22] 22 #[.slice A14 n14 c14, .slice (some ⟨B19, 0, none⟩) 1 1]) w20 fun v22 w21 => ∃ A23 n23 c23, v22 = (.slice A23 n23 c23) ∧ (S13 w21 ∧ (stW w21 (aa0.add 4) (.slice A23 n23 c23) fun w24 => ldM w24 (aa0.add 1) fun m25 => Runs Try.prog (Builtin.delete_ #[63, 3] 0 #[.map m25, .int .i64 xa1]) w24 fun v27 w26 => v27 = (.tuple #[]) ∧ (ldM w26 (aa0.add 3) fun m28 => Runs Try.prog (Builtin.delete_ #[63, 3] 0 #[.map m28, .int .i64 xa1]) w26 fun v30 w29 => v30 = (.tuple #[]) ∧ (Q (.returned (.int .i64 0)) w29))))))))))))))
def D : Nat → Option DH := dtab [(7, .held [.fst 0, .fst 1, .fst 2, .fst 3, .fst 4, .fst 5, .fst 6, .fst 7, .fst 8, .fst 9, .eff 10, .eff 11, .eff 12] [.fst 13, .fst 14, .eff 15])]
def tb : List (List Nat × Spec) := []
variable (aa0 : Addr) (xa1 : Int) (w : World) (Q : Ending → World → Prop)
theorem wp_eq : wp aa0 xa1 w Q = codeW Try.prog hT 49 D (tab tb) [] body (topQ Try.prog hT 49 [.tmp 4] Q) (argsF [.pointer (some aa0), .int .i64 xa1]) w := by kernel_rfl
theorem ok (h : wp aa0 xa1 w Q) : Calls Try.prog 46 #[.pointer (some aa0), .int .i64 xa1] w Q := by
 rw [wp_eq] at h
 refine calls_of_codeW (c := body) (rs := [.tmp 4]) Try.func46 ?_ ?_ ?_ ?_ ?_ (tab_snd (by
  intro x hx
  simp only [tb, List.not_mem_nil] at hx
  )) ?_ h <;> kernel_rfl
end f_linkcut_Forest_DelV
namespace f_linkcut_Forest_Joined
noncomputable def body : Code := (Try.f53.body).getD .skip
def od1 : OD := ⟨[0, 1, 2], [3, 5, 9, 11], fun i => ([⟨false, [], [], fun ps vs => match ps, vs with | [.pointer (some ap0), .int _ xp1, .int _ xp2], [] => .pointer (some ap0) | _, _ => undef⟩,
 ⟨false, [], [0], fun ps vs => match ps, vs with | [.pointer (some ap0), .int _ xp1, .int _ xp2], [] => .pointer (some ap0) | _, _ => undef⟩,
 ⟨false, [], [1], fun ps vs => match ps, vs with | [.pointer (some ap0), .int _ xp1, .int _ xp2], [] => .pointer (some (ap0.add 1)) | _, _ => undef⟩,
 ⟨true, [], [2], fun _ _ => undef⟩,
 ⟨false, [], [], fun ps vs => match ps, vs with | [.pointer (some ap0), .int _ xp1, .int _ xp2], [] => .int .i64 xp1 | _, _ => undef⟩,
 ⟨true, [3], [3, 4], fun _ _ => undef⟩,
 ⟨false, [], [], fun ps vs => match ps, vs with | [.pointer (some ap0), .int _ xp1, .int _ xp2], [] => .pointer (some ap0) | _, _ => undef⟩,
 ⟨false, [], [6], fun ps vs => match ps, vs with | [.pointer (some ap0), .int _ xp1, .int _ xp2], [] => .pointer (some ap0) | _, _ => undef⟩,
 ⟨false, [], [7], fun ps vs => match ps, vs with | [.pointer (some ap0), .int _ xp1, .int _ xp2], [] => .pointer (some (ap0.add 1)) | _, _ => undef⟩,
 ⟨true, [], [8], fun _ _ => undef⟩,
 ⟨false, [], [], fun ps vs => match ps, vs with | [.pointer (some ap0), .int _ xp1, .int _ xp2], [] => .int .i64 xp2 | _, _ => undef⟩,
 ⟨true, [9], [9, 10], fun _ _ => undef⟩,
 ⟨false, [3, 5], [5], fun ps vs => match ps, vs with | [.pointer (some ap0), .int _ xp1, .int _ xp2], [.map me3, .int _ xe5] => .int .i64 xe5 | _, _ => undef⟩,
 ⟨false, [3, 5, 9, 11], [11], fun ps vs => match ps, vs with | [.pointer (some ap0), .int _ xp1, .int _ xp2], [.map me3, .int _ xe5, .map me9, .int _ xe11] => .int .i64 xe11 | _, _ => undef⟩] : List OI).getD i ⟨true, [], [], fun _ _ => undef⟩, fun i => ([.one (.sc .any), .one (.sc .any), .one (.sc .any), (.one (.sc .map)), .one (.sc .any), (.one (.sc (.int .i64))), .one (.sc .any), .one (.sc .any), .one (.sc .any), (.one (.sc .map)), .one (.sc .any), (.one (.sc (.int .i64))), .one (.sc .any), .one (.sc .any)] : List OS).getD i (.one (.sc .any))⟩
def h1 (ap0 : Addr) (xp1 xp2 : Int) : Prop := (∀ (_ : Fr) (w : World), w = w ∧ (.pointer (some ap0) : Value) = (.pointer (some ap0))) ∧ (∀ (_ : Fr) (w : World), w = w ∧ (.pointer (some ap0) : Value) = (.pointer (some ap0))) ∧ (∀ (_ : Fr) (w : World), w = w ∧ (.pointer (some (ap0.add 1)) : Value) = (.pointer (some (ap0.add 1)))) ∧ (∀ (_ : Fr) (w : World), w = w ∧ (.int .i64 xp1 : Value) = (.int .i64 xp1)) ∧ (∀ (_ : Fr) (w : World), w = w ∧ (.pointer (some ap0) : Value) = (.pointer (some ap0))) ∧ (∀ (_ : Fr) (w : World), w = w ∧ (.pointer (some ap0) : Value) = (.pointer (some ap0))) ∧ (∀ (_ : Fr) (w : World), w = w ∧ (.pointer (some (ap0.add 1)) : Value) = (.pointer (some (ap0.add 1)))) ∧ (∀ (_ : Fr) (w : World), w = w ∧ (.int .i64 xp2 : Value) = (.int .i64 xp2)) ∧ (∀ (_ : Fr) (w : World), ∀ (me3 : Option Nat), ∀ (xe5 : Int), w = w ∧ (.int .i64 xe5 : Value) = (.int .i64 xe5)) ∧ (∀ (_ : Fr) (w : World), ∀ (me3 : Option Nat), ∀ (xe5 : Int), ∀ (me9 : Option Nat), ∀ (xe11 : Int), w = w ∧ (.int .i64 xe11 : Value) = (.int .i64 xe11)) ∧ True
theorem h1_ok (ap0 : Addr) (xp1 xp2 : Int) : h1 ap0 xp1 xp2 := ⟨fun _ w => ⟨rfl, rfl⟩, fun _ w => ⟨rfl, rfl⟩, fun _ w => ⟨rfl, rfl⟩, fun _ w => ⟨rfl, rfl⟩, fun _ w => ⟨rfl, rfl⟩, fun _ w => ⟨rfl, rfl⟩, fun _ w => ⟨rfl, rfl⟩, fun _ w => ⟨rfl, rfl⟩, fun _ w _ _ => ⟨rfl, rfl⟩, fun _ w _ _ _ _ => ⟨rfl, rfl⟩, trivial⟩
def wp (aa0 : Addr) (xa1 xa2 : Int) (w : World) (Q : Ending → World → Prop) : Prop := drW w fun w1 => h1 aa0 xa1 xa2 ∧ ∃ (G2 : World → World → Prop) (Φ3 : Nat → Value → World → Prop), (∀ w, G2 w w) ∧ (∀ a b c, G2 a b → G2 b c → G2 a c) ∧ (∀ i v a b, G2 w1 a → G2 a b → Φ3 i v a → Φ3 i v b) ∧ ((∀ (_ : Fr) (w4 : World), G2 w1 w4 → (ldM w4 (aa0.add 1) fun m5 => G2 w4 w4 ∧ Φ3 3 (.map m5) w4)) ∧ (∀ (_ : Fr) (w6 : World), G2 w1 w6 → ∀ (me3 : Option Nat), Φ3 3 (.map me3) w6 → (Runs Try.prog (Instr.lookup 63 (.map me3) (.int .i64 xa1) false) w6 fun v8 w7 => ∃ x9, v8 = (.int .i64 x9) ∧ (G2 w6 w7 ∧ Φ3 5 (.int .i64 x9) w7))) ∧ (∀ (_ : Fr) (w10 : World), G2 w1 w10 → (ldM w10 (aa0.add 1) fun m11 => G2 w10 w10 ∧ Φ3 9 (.map m11) w10)) ∧ (∀ (_ : Fr) (w12 : World), G2 w1 w12 → ∀ (me9 : Option Nat), Φ3 9 (.map me9) w12 → (Runs Try.prog (Instr.lookup 63 (.map me9) (.int .i64 xa2) false) w12 fun v14 w13 => ∃ x15, v14 = (.int .i64 x15) ∧ (G2 w12 w13 ∧ Φ3 11 (.int .i64 x15) w13))) ∧ True) ∧ ∀ w16, G2 w1 w16 → ∀ (me3 : Option Nat), Φ3 3 (.map me3) w16 → ∀ (xe5 : Int), Φ3 5 (.int .i64 xe5) w16 → ∀ (me9 : Option Nat), Φ3 9 (.map me9) w16 → ∀ (xe11 : Int), Φ3 11 (.int .i64 xe11) w16 → (sel (xe5 == 0) (Q (.returned (.tuple #[.bool false, .int .i64 51])) w16) (sel (xe11 == 0) (Q (.returned (.tuple #[.bool false, .int .i64 51])) w16) (Calls Try.prog 57 #[.pointer (some aa0), .int .i64 xe5, .int .i64 xe11] w16 fun e17 w18 => ∃ b19, e17 = .returned (.bool b19) ∧ (Q (.returned (.tuple #[.bool b19, .int .i64 0])) w18))))
def D : Nat → Option DH := dtab [(1, .opn od1)]
def tb : List (List Nat × Spec) := []
variable (aa0 : Addr) (xa1 xa2 : Int) (w : World) (Q : Ending → World → Prop)
theorem wp_eq : wp aa0 xa1 xa2 w Q = codeW Try.prog hT 32 D (tab tb) [] body (topQ Try.prog hT 32 [.tmp 6, .tmp 7] Q) (argsF [.pointer (some aa0), .int .i64 xa1, .int .i64 xa2]) w := by kernel_rfl
theorem ok (h : wp aa0 xa1 xa2 w Q) : Calls Try.prog 53 #[.pointer (some aa0), .int .i64 xa1, .int .i64 xa2] w Q := by
 rw [wp_eq] at h
 refine calls_of_codeW (c := body) (rs := [.tmp 6, .tmp 7]) Try.func53 ?_ ?_ ?_ ?_ ?_ (tab_snd (by
  intro x hx
  simp only [tb, List.not_mem_nil] at hx
  )) ?_ h <;> kernel_rfl
end f_linkcut_Forest_Joined
namespace f_linkcut_Forest_root
noncomputable def body : Code := (Try.f54.body).getD .skip
def wp (aa0 : Addr) (xa1 : Int) (w : World) (Q : Ending → World → Prop) : Prop := Calls Try.prog 55 #[.pointer (some aa0), .int .i64 xa1] w fun e1 w2 => e1 = .returned (.tuple #[]) ∧ (drW w2 fun w3 => ldS w3 aa0 fun A5 n5 c5 => ldS w3 aa0 fun A6 n6 c6 => optB A6 fun a7 => req (decide (0 ≤ xa1 ∧ xa1 < (n6 : Int))) <| ldB w3 ((a7.add (xa1.toNat * 13)).add 3) fun b8 => optB A5 fun a9 => req (decide (0 ≤ xa1 ∧ xa1 < (n5 : Int))) <| stW w3 ((a9.add (xa1.toNat * 13)).add 3) (.bool (!b8)) fun w10 => Calls Try.prog 73 #[.pointer (some aa0), .int .i64 xa1] w10 fun e11 w12 => e11 = .returned (.tuple #[]) ∧ (Q (.returned (.tuple #[])) w12))
def D : Nat → Option DH := dtab [(1, .simple [.fst 0, .fst 1, .fst 2, .fst 3, .fst 4, .fst 5, .fst 6, .fst 7, .fst 8, .fst 9, .fst 10, .fst 11, .fst 12, .fst 13] [.fst 14, .fst 15, .eff 16])]
def tb : List (List Nat × Spec) := []
variable (aa0 : Addr) (xa1 : Int) (w : World) (Q : Ending → World → Prop)
theorem wp_eq : wp aa0 xa1 w Q = codeW Try.prog hT 26 D (tab tb) [] body (topQ Try.prog hT 26 [] Q) (argsF [.pointer (some aa0), .int .i64 xa1]) w := by kernel_rfl
theorem ok (h : wp aa0 xa1 w Q) : Calls Try.prog 54 #[.pointer (some aa0), .int .i64 xa1] w Q := by
 rw [wp_eq] at h
 refine calls_of_codeW (c := body) (rs := []) Try.func54 ?_ ?_ ?_ ?_ ?_ (tab_snd (by
  intro x hx
  simp only [tb, List.not_mem_nil] at hx
  )) ?_ h <;> kernel_rfl
end f_linkcut_Forest_root
namespace f_linkcut_Forest_access
noncomputable def body : Code := (Try.f55.body).getD .skip
def l0 : Nat → Addr → Int → Int → World → (World → Prop) → Prop | 0, _, _, _, _, _ => False | k + 1, at0, xt4, xt5, w, K0 => sel (decide (xt5 > 0)) (Calls Try.prog 74 #[.pointer (some at0), .int .i64 xt5] w fun e1 w2 => e1 = .returned (.tuple #[]) ∧ (ldS w2 at0 fun A3 n3 c3 => optB A3 fun a4 => req (decide (0 ≤ xt5 ∧ xt5 < (n3 : Int))) <| stW w2 ((a4.add (xt5.toNat * 13)).add ((1 : Int).toNat * 1)) (.int .i64 xt4) fun w5 => Calls Try.prog 75 #[.pointer (some at0), .int .i64 xt5] w5 fun e6 w7 => e6 = .returned (.tuple #[]) ∧ (ldS w7 at0 fun A8 n8 c8 => optB A8 fun a9 => req (decide (0 ≤ xt5 ∧ xt5 < (n8 : Int))) <| ldI w7 ((a9.add (xt5.toNat * 13)).add 2) .i64 fun x10 => l0 k at0 xt5 x10 w7 K0))) (K0 w)
def wp (aa0 : Addr) (xa1 : Int) (w : World) (Q : Ending → World → Prop) : Prop := ∃ k14, l0 k14 aa0 0 xa1 w (fun w11 => ∀ _ : Fr, Calls Try.prog 74 #[.pointer (some aa0), .int .i64 xa1] w11 fun e12 w13 => e12 = .returned (.tuple #[]) ∧ (Q (.returned (.tuple #[])) w13))
def D : Nat → Option DH := dtab []
def l0LO : LO := ⟨[], [], [(0, [0, 1])], []⟩
def l0Tk (k : Nat) : Spec := fun Q σ w => gAd (σ 0) fun at0 => gInt .i64 (σ 4) fun xt4 => gInt .i64 (σ 5) fun xt5 => l0 k at0 xt4 xt5 w (fun w => ∀ d : Fr, Q (.exit 0) (ov d [(0, .pointer (some at0)), (1, σ 1)]) w)
def l0T : Spec := fun Q σ w => ∃ k, l0Tk k Q σ w
def l0tb : List (List Nat × Spec) := []
noncomputable def l0b : Code := (subC [0, 0, 1, 0, 1] body).getD .skip
theorem l0_eq (k : Nat) (at0 : Addr) (xt4 xt5 : Int) (Q : PQ) (σ : Fr) (w : World) : l0 (k + 1) at0 xt4 xt5 w (fun w => ∀ d : Fr, Q (.exit 0) (ov d [(0, .pointer (some at0)), (1, σ 1)]) w) = codeW Try.prog hT 36 D (tab l0tb) [0, 0, 1, 0, 1] l0b (thenQ (l0Tk k Q) (widen l0LO Q)) (ov σ [(0, .pointer (some at0)), (4, .int .i64 xt4), (5, .int .i64 xt5)]) w := by kernel_rfl
theorem l0_snd : ∀ c, subC [0, 1, 0, 1] body = some c → Snd Try.prog 36 c l0T := by
 refine loop_of (hT := hT) (D := D) (l := l0tb) (b := l0b) (lo := l0LO) (by kernel_rfl) (by
  intro x hx
  simp only [l0tb, List.not_mem_nil] at hx
  ) (by kernel_rfl) (by kernel_rfl) ?_ ?_
 ·intro Q σ w h
  unfold l0Tk at h
  obtain ⟨_, _, h⟩ := gAd_elim h
  obtain ⟨_, _, h⟩ := gInt_elim h
  obtain ⟨_, _, h⟩ := gInt_elim h
  exact h
 ·intro k Q σ w h
  unfold l0Tk at h
  obtain ⟨at0, h0, h⟩ := gAd_elim h
  obtain ⟨xt4, h4, h⟩ := gInt_elim h
  obtain ⟨xt5, h5, h⟩ := gInt_elim h
  rw [l0_eq (σ := σ)] at h
  have e : (ov σ [(0, .pointer (some at0)), (4, .int .i64 xt4), (5, .int .i64 xt5)]) = σ := ov_self (by simp [h0, h4, h5])
  rw [e] at h
  exact h
def tb : List (List Nat × Spec) := [([0, 1, 0, 1], l0T)]
variable (aa0 : Addr) (xa1 : Int) (w : World) (Q : Ending → World → Prop)
theorem wp_eq : wp aa0 xa1 w Q = codeW Try.prog hT 36 D (tab tb) [] body (topQ Try.prog hT 36 [] Q) (argsF [.pointer (some aa0), .int .i64 xa1]) w := by kernel_rfl
theorem ok (h : wp aa0 xa1 w Q) : Calls Try.prog 55 #[.pointer (some aa0), .int .i64 xa1] w Q := by
 rw [wp_eq] at h
 refine calls_of_codeW (c := body) (rs := []) Try.func55 ?_ ?_ ?_ ?_ ?_ (tab_snd (by
  intro x hx
  simp only [tb, List.mem_cons, List.not_mem_nil, or_false] at hx
  subst hx
  exact l0_snd)) ?_ h <;> kernel_rfl
end f_linkcut_Forest_access
namespace f_linkcut_badId
noncomputable def body : Code := (Try.f56.body).getD .skip
def wp (xa0 : Int) (w : World) (Q : Ending → World → Prop) : Prop := sel (decide (xa0 < 1)) (Q (.returned (.bool true)) w) (Q (.returned (.bool (decide (xa0 > 2147483647)))) w)
def D : Nat → Option DH := dtab []
def tb : List (List Nat × Spec) := []
variable (xa0 : Int) (w : World) (Q : Ending → World → Prop)
theorem wp_eq : wp xa0 w Q = codeW Try.prog hT 9 D (tab tb) [] body (topQ Try.prog hT 9 [.tmp 2] Q) (argsF [.int .i64 xa0]) w := by kernel_rfl
theorem ok (h : wp xa0 w Q) : Calls Try.prog 56 #[.int .i64 xa0] w Q := by
 rw [wp_eq] at h
 refine calls_of_codeW (c := body) (rs := [.tmp 2]) Try.func56 ?_ ?_ ?_ ?_ ?_ (tab_snd (by
  intro x hx
  simp only [tb, List.not_mem_nil] at hx
  )) ?_ h <;> kernel_rfl
end f_linkcut_badId
namespace f_linkcut_Forest_joined
noncomputable def body : Code := (Try.f57.body).getD .skip
def wp (aa0 : Addr) (xa1 xa2 : Int) (w : World) (Q : Ending → World → Prop) : Prop := sel (xa1 == xa2) (Q (.returned (.bool true)) w) (Calls Try.prog 55 #[.pointer (some aa0), .int .i64 xa1] w fun e1 w2 => e1 = .returned (.tuple #[]) ∧ (Calls Try.prog 55 #[.pointer (some aa0), .int .i64 xa2] w2 fun e3 w4 => e3 = .returned (.tuple #[]) ∧ (ldS w4 aa0 fun A5 n5 c5 => optB A5 fun a6 => req (decide (0 ≤ xa1 ∧ xa1 < (n5 : Int))) <| ldI w4 ((a6.add (xa1.toNat * 13)).add 2) .i64 fun x7 => Q (.returned (.bool (decide (x7 > 0)))) w4)))
def D : Nat → Option DH := dtab []
def tb : List (List Nat × Spec) := []
variable (aa0 : Addr) (xa1 xa2 : Int) (w : World) (Q : Ending → World → Prop)
theorem wp_eq : wp aa0 xa1 xa2 w Q = codeW Try.prog hT 25 D (tab tb) [] body (topQ Try.prog hT 25 [.tmp 6] Q) (argsF [.pointer (some aa0), .int .i64 xa1, .int .i64 xa2]) w := by kernel_rfl
theorem ok (h : wp aa0 xa1 xa2 w Q) : Calls Try.prog 57 #[.pointer (some aa0), .int .i64 xa1, .int .i64 xa2] w Q := by
 rw [wp_eq] at h
 refine calls_of_codeW (c := body) (rs := [.tmp 6]) Try.func57 ?_ ?_ ?_ ?_ ?_ (tab_snd (by
  intro x hx
  simp only [tb, List.not_mem_nil] at hx
  )) ?_ h <;> kernel_rfl
end f_linkcut_Forest_joined
namespace f_linkcut_Forest_make
noncomputable def body : Code := (Try.f58.body).getD .skip
def j0 (at0 at5 : Addr) (w : World) (Kr : Int → World → Prop) : Prop := ldS w (at0.add 4) fun A36 n36 c36 => sel (decide ((n36 : Int) > 0)) (ldS w (at0.add 4) fun A37 n37 c37 => optB A37 fun a38 => req (decide (0 ≤ (IntKind.i64.wrap ((n36 : Int) - 1)) ∧ (IntKind.i64.wrap ((n36 : Int) - 1)) < (n37 : Int))) <| ldI w (a38.add ((IntKind.i64.wrap ((n36 : Int) - 1)).toNat * 1)) .i64 fun x39 => ldS w (at0.add 4) fun A40 n40 c40 => req (decide (0 ≤ (IntKind.i64.wrap ((n36 : Int) - 1)) ∧ (IntKind.i64.wrap ((n36 : Int) - 1)) ≤ (c40 : Int))) <| stW w (at0.add 4) (.slice (slA A40 0 c40 1) ((IntKind.i64.wrap ((n36 : Int) - 1)).toNat - 0) (c40 - 0)) fun w41 => drW w41 fun w42 => ldS w42 at0 fun A44 n44 c44 => ldI w42 at5 .i64 fun x45 => ldI w42 (at5.add 1) .i64 fun x46 => ldI w42 (at5.add 2) .i64 fun x47 => ldB w42 (at5.add 3) fun b48 => ldI w42 (at5.add 4) .i64 fun x49 => ldI w42 (at5.add 5) .i64 fun x50 => ldI w42 (at5.add 6) .i64 fun x51 => ldI w42 (at5.add 7) .i64 fun x52 => ldI w42 (at5.add 8) .i64 fun x53 => ldI w42 (at5.add 9) .i64 fun x54 => ldI w42 (at5.add 10) .i64 fun x55 => ldI w42 (at5.add 11) .i64 fun x56 => ldC w42 (at5.add 12) .f64 fun r57 i57 => optB A44 fun a58 => req (decide (0 ≤ x39 ∧ x39 < (n44 : Int))) <| stW w42 (a58.add (x39.toNat * 13)) (.int .i64 x45) fun w59 => stW w59 ((a58.add (x39.toNat * 13)).add 1) (.int .i64 x46) fun w60 => stW w60 ((a58.add (x39.toNat * 13)).add 2) (.int .i64 x47) fun w61 => stW w61 ((a58.add (x39.toNat * 13)).add 3) (.bool b48) fun w62 => stW w62 ((a58.add (x39.toNat * 13)).add 4) (.int .i64 x49) fun w63 => stW w63 ((a58.add (x39.toNat * 13)).add 5) (.int .i64 x50) fun w64 => stW w64 ((a58.add (x39.toNat * 13)).add 6) (.int .i64 x51) fun w65 => stW w65 ((a58.add (x39.toNat * 13)).add 7) (.int .i64 x52) fun w66 => stW w66 ((a58.add (x39.toNat * 13)).add 8) (.int .i64 x53) fun w67 => stW w67 ((a58.add (x39.toNat * 13)).add 9) (.int .i64 x54) fun w68 => stW w68 ((a58.add (x39.toNat * 13)).add 10) (.int .i64 x55) fun w69 => stW w69 ((a58.add (x39.toNat * 13)).add 11) (.int .i64 x56) fun w70 => stW w70 ((a58.add (x39.toNat * 13)).add 12) (.complex .f64 r57 i57) fun w71 => Kr x39 w71) (drW w fun w72 => ∃ S73 : World → Prop, S73 w72 ∧ (hdS S73 at0 fun A74 n74 c74 => hdI S73 at5 .i64 fun x75 => hdI S73 (at5.add 1) .i64 fun x76 => hdI S73 (at5.add 2) .i64 fun x77 => hdB S73 (at5.add 3) fun b78 => hdI S73 (at5.add 4) .i64 fun x79 => hdI S73 (at5.add 5) .i64 fun x80 => hdI S73 (at5.add 6) .i64 fun x81 => hdI S73 (at5.add 7) .i64 fun x82 => hdI S73 (at5.add 8) .i64 fun x83 => hdI S73 (at5.add 9) .i64 fun x84 => hdI S73 (at5.add 10) .i64 fun x85 => hdI S73 (at5.add 11) .i64 fun x86 => hdC S73 (at5.add 12) .f64 fun r87 i87 => alW w72 (.cells #[.int .i64 x75, .int .i64 x76, .int .i64 x77, .bool b78, .int .i64 x79, .int .i64 x80, .int .i64 x81, .int .i64 x82, .int .i64 x83, .int .i64 x84, .int .i64 x85, .int .i64 x86, .complex .f64 r87 i87] 109) fun B88 w89 => S73 w89 ∧ (Runs Try.prog (Builtin.append_ #[96, 96] 96 #[.slice A74 n74 c74, .slice (some ⟨B88, 0, none⟩) 1 1]) w89 fun v91 w90 => ∃ A92 n92 c92, v91 = (.slice A92 n92 c92) ∧ (S73 w90 ∧ (stW w90 at0 (.slice A92 n92 c92) fun w93 => ldS w93 at0 fun A94 n94 c94 => Kr (IntKind.i64.wrap ((n94 : Int) - 1)) w93)))))
def wp (aa0 : Addr) (xa1_0 xa1_1 xa1_2 xa1_3 : Int) (w : World) (Q : Ending → World → Prop) : Prop := alW w (.cells #[.int .i64 xa1_0, .int .i64 xa1_1, .int .i64 xa1_2, .int .i64 xa1_3] 33) fun B1 w2 => ldI w2 ⟨B1, 0, none⟩ .i64 fun x3 => ldI w2 (.add ⟨B1, 0, none⟩ 1) .i64 fun x4 => ldI w2 (.add ⟨B1, 0, none⟩ 2) .i64 fun x5 => ldI w2 (.add ⟨B1, 0, none⟩ 3) .i64 fun x6 => alW w2 (.cells #[.int .i64 0, .int .i64 0, .int .i64 0, .bool false, .int .i64 0, .int .i64 0, .int .i64 0, .int .i64 0, .int .i64 0, .int .i64 0, .int .i64 0, .int .i64 0, .complex .f64 0 0] 109) fun B7 w8 => stW w8 ⟨B7, 0, none⟩ (.int .i64 0) fun w9 => stW w9 (.add ⟨B7, 0, none⟩ 1) (.int .i64 0) fun w10 => stW w10 (.add ⟨B7, 0, none⟩ 2) (.int .i64 0) fun w11 => stW w11 (.add ⟨B7, 0, none⟩ 3) (.bool false) fun w12 => stW w12 (.add ⟨B7, 0, none⟩ 4) (.int .i64 x3) fun w13 => stW w13 (.add ⟨B7, 0, none⟩ 5) (.int .i64 x4) fun w14 => stW w14 (.add ⟨B7, 0, none⟩ 6) (.int .i64 x5) fun w15 => stW w15 (.add ⟨B7, 0, none⟩ 7) (.int .i64 x6) fun w16 => stW w16 (.add ⟨B7, 0, none⟩ 8) (.int .i64 0) fun w17 => stW w17 (.add ⟨B7, 0, none⟩ 9) (.int .i64 0) fun w18 => stW w18 (.add ⟨B7, 0, none⟩ 10) (.int .i64 0) fun w19 => stW w19 (.add ⟨B7, 0, none⟩ 11) (.int .i64 0) fun w20 => stW w20 (.add ⟨B7, 0, none⟩ 12) (.complex .f64 0 0) fun w21 => ldI w21 ⟨B1, 0, none⟩ .i64 fun x22 => sel (decide (x22 > 0)) (ldI w21 ⟨B1, 0, none⟩ .i64 fun x23 => ldI w21 (.add ⟨B1, 0, none⟩ 1) .i64 fun x24 => ldI w21 (.add ⟨B1, 0, none⟩ 2) .i64 fun x25 => ldI w21 (.add ⟨B1, 0, none⟩ 3) .i64 fun x26 => ldI w21 (.add ⟨B1, 0, none⟩ 3) .i64 fun x27 => Runs Try.prog (Go.convert 2 72 (.int .i64 x27)) w21 fun v29 w28 => ∃ f30, v29 = (.float .f64 f30) ∧ (stW w28 (.add ⟨B7, 0, none⟩ 8) (.int .i64 x23) fun w31 => stW w31 (((⟨B7, 0, none⟩ : Addr).add 8).add 1) (.int .i64 x24) fun w32 => stW w32 (((⟨B7, 0, none⟩ : Addr).add 8).add 2) (.int .i64 x25) fun w33 => stW w33 (((⟨B7, 0, none⟩ : Addr).add 8).add 3) (.int .i64 x26) fun w34 => stW w34 (((⟨B7, 0, none⟩ : Addr).add 8).add 4) (.complex .f64 f30 4607182418800017408) fun w35 => j0 aa0 ⟨B7, 0, none⟩ w35 (fun x95 w96 => ∀ _ : Fr, Q (.returned (.int .i64 x95)) w96))) (j0 aa0 ⟨B7, 0, none⟩ w21 (fun x97 w98 => ∀ _ : Fr, Q (.returned (.int .i64 x97)) w98))
def D : Nat → Option DH := dtab [(8, .simple [.fst 0, .fst 1, .fst 2, .fst 3, .fst 4, .fst 5] [.fst 6, .eff 7]), (10, .held [.fst 0, .fst 1, .fst 2, .fst 3, .fst 4, .fst 5, .eff 6, .eff 7] [.fst 8, .fst 9, .eff 10])]
def j0LO : LO := ⟨[], [4], [], []⟩
def j0T : Spec := fun Q σ w => gAd (σ 0) fun at0 => gAd (σ 5) fun at5 => j0 at0 at5 w (fun xq4 w => ∀ d : Fr, Q .ret (ov d [(4, .int .i64 xq4)]) w)
def j0tb : List (List Nat × Spec) := []
noncomputable def j0b : Code := (subC [1, 1, 1] body).getD .skip
theorem j0_eq (at0 at5 : Addr) (Q : PQ) (σ : Fr) (w : World) : j0 at0 at5 w (fun xq4 w => ∀ d : Fr, Q .ret (ov d [(4, .int .i64 xq4)]) w) = codeW Try.prog hT 69 D (tab j0tb) [1, 1, 1] j0b (widen j0LO Q) (ov σ [(0, .pointer (some at0)), (5, .pointer (some at5))]) w := by kernel_rfl
theorem j0_snd : ∀ c, subC [1, 1, 1] body = some c → Snd Try.prog 69 c j0T := by
 refine cut_of (hT := hT) (D := D) (l := j0tb) (b := j0b) (lo := j0LO) (by kernel_rfl) (by
  intro x hx
  simp only [j0tb, List.not_mem_nil] at hx
  ) (by kernel_rfl) (by kernel_rfl) ?_
 intro Q σ w h
 unfold j0T at h
 obtain ⟨at0, h0, h⟩ := gAd_elim h
 obtain ⟨at5, h5, h⟩ := gAd_elim h
 rw [j0_eq (σ := σ)] at h
 have e : (ov σ [(0, .pointer (some at0)), (5, .pointer (some at5))]) = σ := ov_self (by simp [h0, h5])
 rw [e] at h
 exact h
def tb : List (List Nat × Spec) := [([1, 1, 1], j0T)]
variable (aa0 : Addr) (xa1_0 xa1_1 xa1_2 xa1_3 : Int) (w : World) (Q : Ending → World → Prop)
theorem wp_eq : wp aa0 xa1_0 xa1_1 xa1_2 xa1_3 w Q = codeW Try.prog hT 69 D (tab tb) [] body (topQ Try.prog hT 69 [.tmp 4] Q) (argsF [.pointer (some aa0), .agg #[.int .i64 xa1_0, .int .i64 xa1_1, .int .i64 xa1_2, .int .i64 xa1_3]]) w := by kernel_rfl
theorem ok (h : wp aa0 xa1_0 xa1_1 xa1_2 xa1_3 w Q) : Calls Try.prog 58 #[.pointer (some aa0), .agg #[.int .i64 xa1_0, .int .i64 xa1_1, .int .i64 xa1_2, .int .i64 xa1_3]] w Q := by
 rw [wp_eq] at h
 refine calls_of_codeW (c := body) (rs := [.tmp 4]) Try.func58 ?_ ?_ ?_ ?_ ?_ (tab_snd (by
  intro x hx
  simp only [tb, List.mem_cons, List.not_mem_nil, or_false] at hx
  subst hx
  exact j0_snd)) ?_ h <;> kernel_rfl
end f_linkcut_Forest_make
namespace f_linkcut_Forest_part
noncomputable def body : Code := (Try.f65.body).getD .skip
def wp (aa0 : Addr) (xa1 xa2 : Int) (w : World) (Q : Ending → World → Prop) : Prop := Calls Try.prog 54 #[.pointer (some aa0), .int .i64 xa1] w fun e1 w2 => e1 = .returned (.tuple #[]) ∧ (Calls Try.prog 55 #[.pointer (some aa0), .int .i64 xa2] w2 fun e3 w4 => e3 = .returned (.tuple #[]) ∧ (ldS w4 aa0 fun A5 n5 c5 => optB A5 fun a6 => req (decide (0 ≤ xa2 ∧ xa2 < (n5 : Int))) <| stW w4 ((a6.add (xa2.toNat * 13)).add ((0 : Int).toNat * 1)) (.int .i64 0) fun w7 => ldS w7 aa0 fun A8 n8 c8 => optB A8 fun a9 => req (decide (0 ≤ xa1 ∧ xa1 < (n8 : Int))) <| stW w7 ((a9.add (xa1.toNat * 13)).add 2) (.int .i64 0) fun w10 => Calls Try.prog 75 #[.pointer (some aa0), .int .i64 xa2] w10 fun e11 w12 => e11 = .returned (.tuple #[]) ∧ (Q (.returned (.tuple #[])) w12)))
def D : Nat → Option DH := dtab []
def tb : List (List Nat × Spec) := []
variable (aa0 : Addr) (xa1 xa2 : Int) (w : World) (Q : Ending → World → Prop)
theorem wp_eq : wp aa0 xa1 xa2 w Q = codeW Try.prog hT 30 D (tab tb) [] body (topQ Try.prog hT 30 [] Q) (argsF [.pointer (some aa0), .int .i64 xa1, .int .i64 xa2]) w := by kernel_rfl
theorem ok (h : wp aa0 xa1 xa2 w Q) : Calls Try.prog 65 #[.pointer (some aa0), .int .i64 xa1, .int .i64 xa2] w Q := by
 rw [wp_eq] at h
 refine calls_of_codeW (c := body) (rs := []) Try.func65 ?_ ?_ ?_ ?_ ?_ (tab_snd (by
  intro x hx
  simp only [tb, List.not_mem_nil] at hx
  )) ?_ h <;> kernel_rfl
end f_linkcut_Forest_part
namespace f_linkcut_Forest_push
noncomputable def body : Code := (Try.f73.body).getD .skip
def l0 : Nat → Addr → Int → Int → Int → World → (World → Prop) → Prop | 0, _, _, _, _, _, _ => False | k + 1, at0, xt42_0, xt42_1, xt43, w, K0 => sel (decide (xt43 < 2)) (req (true && decide (0 ≤ xt43 ∧ xt43 < ((2 : Nat) : Int))) <| idxI (#[.int .i64 xt42_0, .int .i64 xt42_1] : Array Value) xt43.toNat .i64 fun x13 => sel (decide (x13 > 0)) (drW w fun w14 => ldS w14 at0 fun A16 n16 c16 => ldS w14 at0 fun A17 n17 c17 => optB A17 fun a18 => req (decide (0 ≤ x13 ∧ x13 < (n17 : Int))) <| ldB w14 ((a18.add (x13.toNat * 13)).add 3) fun b19 => optB A16 fun a20 => req (decide (0 ≤ x13 ∧ x13 < (n16 : Int))) <| stW w14 ((a20.add (x13.toNat * 13)).add 3) (.bool (!b19)) fun w21 => l0 k at0 xt42_0 xt42_1 (IntKind.i64.wrap (xt43 + 1)) w21 K0) (l0 k at0 xt42_0 xt42_1 (IntKind.i64.wrap (xt43 + 1)) w K0)) (K0 w)
def wp (aa0 : Addr) (xa1 : Int) (w : World) (Q : Ending → World → Prop) : Prop := ldS w aa0 fun A1 n1 c1 => optB A1 fun a2 => req (decide (0 ≤ xa1 ∧ xa1 < (n1 : Int))) <| ldB w ((a2.add (xa1.toNat * 13)).add 3) fun b3 => sel (!b3) (Q (.returned (.tuple #[])) w) (stW w ((a2.add (xa1.toNat * 13)).add 3) (.bool false) fun w4 => drW w4 fun w5 => ldI w5 ((a2.add (xa1.toNat * 13)).add ((1 : Int).toNat * 1)) .i64 fun x7 => ldI w5 ((a2.add (xa1.toNat * 13)).add ((0 : Int).toNat * 1)) .i64 fun x8 => stW w5 ((a2.add (xa1.toNat * 13)).add ((0 : Int).toNat * 1)) (.int .i64 x7) fun w9 => stW w9 ((a2.add (xa1.toNat * 13)).add ((1 : Int).toNat * 1)) (.int .i64 x8) fun w10 => ldI w10 (a2.add (xa1.toNat * 13)) .i64 fun x11 => ldI w10 ((a2.add (xa1.toNat * 13)).add 1) .i64 fun x12 => ∃ k23, l0 k23 aa0 x11 x12 0 w10 (fun w22 => ∀ _ : Fr, Q (.returned (.tuple #[])) w22))
def D : Nat → Option DH := dtab [(3, .pre [0, 1, 2, 3, 4, 5, 7, 8, 9, 10, 12, 13, 16, 17] [.fst 6, .fst 11] [.fst 14, .eff 15, .fst 18, .eff 19]), (8, .simple [.fst 0, .fst 1, .fst 2, .fst 3, .fst 4, .fst 5, .fst 6, .fst 7, .fst 8, .fst 9, .fst 10, .fst 11, .fst 12, .fst 13] [.fst 14, .fst 15, .eff 16])]
def l0LO : LO := ⟨[], [], [(0, [])], []⟩
def l0Tk (k : Nat) : Spec := fun Q σ w => gAd (σ 0) fun at0 => gAgg (σ 42) fun l24 => gCons l24 fun h27 l25 => gInt .i64 h27 fun xt42_0 => gCons l25 fun h28 l26 => gInt .i64 h28 fun xt42_1 => gNil l26 <| gInt .i64 (σ 43) fun xt43 => l0 k at0 xt42_0 xt42_1 xt43 w (fun w => ∀ d : Fr, Q (.exit 0) (ov d []) w)
def l0T : Spec := fun Q σ w => ∃ k, l0Tk k Q σ w
def l0tb : List (List Nat × Spec) := []
noncomputable def l0b : Code := (subC [0, 0, 1, 1, 1, 1, 1] body).getD .skip
theorem l0_eq (k : Nat) (at0 : Addr) (xt42_0 xt42_1 xt43 : Int) (Q : PQ) (σ : Fr) (w : World) : l0 (k + 1) at0 xt42_0 xt42_1 xt43 w (fun w => ∀ d : Fr, Q (.exit 0) (ov d []) w) = codeW Try.prog hT 65 D (tab l0tb) [0, 0, 1, 1, 1, 1, 1] l0b (thenQ (l0Tk k Q) (widen l0LO Q)) (ov σ [(0, .pointer (some at0)), (42, .agg #[.int .i64 xt42_0, .int .i64 xt42_1]), (43, .int .i64 xt43)]) w := by kernel_rfl
theorem l0_snd : ∀ c, subC [0, 1, 1, 1, 1, 1] body = some c → Snd Try.prog 65 c l0T := by
 refine loop_of (hT := hT) (D := D) (l := l0tb) (b := l0b) (lo := l0LO) (by kernel_rfl) (by
  intro x hx
  simp only [l0tb, List.not_mem_nil] at hx
  ) (by kernel_rfl) (by kernel_rfl) ?_ ?_
 ·intro Q σ w h
  unfold l0Tk at h
  obtain ⟨at0, h0, h⟩ := gAd_elim h
  obtain ⟨lh42, h42, h⟩ := gAgg_elim h
  obtain ⟨hdh42_0, tlh42_0, eh42_0, hn⟩ := gCons_elim h
  clear h
  have h := hn
  clear hn
  subst eh42_0
  obtain ⟨xt42_0, fh42_0, hn⟩ := gInt_elim h
  clear h
  have h := hn
  clear hn
  subst fh42_0
  obtain ⟨hdh42_1, tlh42_1, eh42_1, hn⟩ := gCons_elim h
  clear h
  have h := hn
  clear hn
  subst eh42_1
  obtain ⟨xt42_1, fh42_1, hn⟩ := gInt_elim h
  clear h
  have h := hn
  clear hn
  subst fh42_1
  obtain ⟨eh42, hn⟩ := gNil_elim h
  clear h
  have h := hn
  clear hn
  subst eh42
  obtain ⟨xt43, h43, h⟩ := gInt_elim h
  exact h
 ·intro k Q σ w h
  unfold l0Tk at h
  obtain ⟨at0, h0, h⟩ := gAd_elim h
  obtain ⟨lh42, h42, h⟩ := gAgg_elim h
  obtain ⟨hdh42_0, tlh42_0, eh42_0, hn⟩ := gCons_elim h
  clear h
  have h := hn
  clear hn
  subst eh42_0
  obtain ⟨xt42_0, fh42_0, hn⟩ := gInt_elim h
  clear h
  have h := hn
  clear hn
  subst fh42_0
  obtain ⟨hdh42_1, tlh42_1, eh42_1, hn⟩ := gCons_elim h
  clear h
  have h := hn
  clear hn
  subst eh42_1
  obtain ⟨xt42_1, fh42_1, hn⟩ := gInt_elim h
  clear h
  have h := hn
  clear hn
  subst fh42_1
  obtain ⟨eh42, hn⟩ := gNil_elim h
  clear h
  have h := hn
  clear hn
  subst eh42
  obtain ⟨xt43, h43, h⟩ := gInt_elim h
  rw [l0_eq (σ := σ)] at h
  have e : (ov σ [(0, .pointer (some at0)), (42, .agg #[.int .i64 xt42_0, .int .i64 xt42_1]), (43, .int .i64 xt43)]) = σ := ov_self (by simp [h0, h42, h43])
  rw [e] at h
  exact h
def tb : List (List Nat × Spec) := [([0, 1, 1, 1, 1, 1], l0T)]
variable (aa0 : Addr) (xa1 : Int) (w : World) (Q : Ending → World → Prop)
theorem wp_eq : wp aa0 xa1 w Q = codeW Try.prog hT 65 D (tab tb) [] body (topQ Try.prog hT 65 [] Q) (argsF [.pointer (some aa0), .int .i64 xa1]) w := by kernel_rfl
theorem ok (h : wp aa0 xa1 w Q) : Calls Try.prog 73 #[.pointer (some aa0), .int .i64 xa1] w Q := by
 rw [wp_eq] at h
 refine calls_of_codeW (c := body) (rs := []) Try.func73 ?_ ?_ ?_ ?_ ?_ (tab_snd (by
  intro x hx
  simp only [tb, List.mem_cons, List.not_mem_nil, or_false] at hx
  subst hx
  exact l0_snd)) ?_ h <;> kernel_rfl
end f_linkcut_Forest_push
namespace f_linkcut_Forest_splay
noncomputable def body : Code := (Try.f74.body).getD .skip
def l0 : Nat → Addr → Option Addr → Nat → Nat → Int → World → ((Option Addr) → Nat → Nat → World → Prop) → Prop | 0, _, _, _, _, _, _, _ => False | k + 1, at0, At4, nt4, ct4, xt5, w, K0 => Calls Try.prog 78 #[.pointer (some at0), .int .i64 xt5] w fun e3 w4 => ∃ x5, e3 = .returned (.int .i64 x5) ∧ (sel (decide (x5 ≥ 0)) (ldS w4 at0 fun A6 n6 c6 => optB A6 fun a7 => req (decide (0 ≤ xt5 ∧ xt5 < (n6 : Int))) <| ldI w4 ((a7.add (xt5.toNat * 13)).add 2) .i64 fun x8 => alW w4 (.cells #[.int .i64 x8] 3) fun B9 w10 => Runs Try.prog (Builtin.append_ #[22, 22] 22 #[.slice At4 nt4 ct4, .slice (some ⟨B9, 0, none⟩) 1 1]) w10 fun v12 w11 => ∃ A13 n13 c13, v12 = (.slice A13 n13 c13) ∧ (l0 k at0 A13 n13 c13 x8 w11 K0)) (K0 At4 nt4 ct4 w4))
def l1 : Nat → Addr → Option Addr → Nat → Nat → Int → World → (World → Prop) → Prop | 0, _, _, _, _, _, _, _ => False | k + 1, at0, At4, nt4, ct4, xt6, w, K2 => sel (decide (xt6 ≥ 0)) (optB At4 fun a16 => req (decide (0 ≤ xt6 ∧ xt6 < (nt4 : Int))) <| ldI w (a16.add (xt6.toNat * 1)) .i64 fun x17 => Calls Try.prog 73 #[.pointer (some at0), .int .i64 x17] w fun e18 w19 => e18 = .returned (.tuple #[]) ∧ (l1 k at0 At4 nt4 ct4 (IntKind.i64.wrap (xt6 - 1)) w19 K2)) (K2 w)
def l2 : Nat → Addr → Int → Int → World → (World → Prop) → Prop | 0, _, _, _, _, _ => False | k + 1, at0, xt1, xt7, w, K4 => sel (decide (xt7 ≥ 0)) (ldS w at0 fun A24 n24 c24 => optB A24 fun a25 => req (decide (0 ≤ xt1 ∧ xt1 < (n24 : Int))) <| ldI w ((a25.add (xt1.toNat * 13)).add 2) .i64 fun x26 => Calls Try.prog 78 #[.pointer (some at0), .int .i64 x26] w fun e27 w28 => ∃ x29, e27 = .returned (.int .i64 x29) ∧ (sel (x29 == (-1 : Int)) (Calls Try.prog 79 #[.pointer (some at0), .int .i64 xt1] w28 fun e30 w31 => e30 = .returned (.tuple #[]) ∧ (Calls Try.prog 78 #[.pointer (some at0), .int .i64 xt1] w31 fun e32 w33 => ∃ x34, e32 = .returned (.int .i64 x34) ∧ (l2 k at0 xt1 x34 w33 K4))) (sel (x29 == xt7) (Calls Try.prog 79 #[.pointer (some at0), .int .i64 x26] w28 fun e35 w36 => e35 = .returned (.tuple #[]) ∧ (Calls Try.prog 79 #[.pointer (some at0), .int .i64 xt1] w36 fun e37 w38 => e37 = .returned (.tuple #[]) ∧ (Calls Try.prog 78 #[.pointer (some at0), .int .i64 xt1] w38 fun e39 w40 => ∃ x41, e39 = .returned (.int .i64 x41) ∧ (l2 k at0 xt1 x41 w40 K4)))) (Calls Try.prog 79 #[.pointer (some at0), .int .i64 xt1] w28 fun e42 w43 => e42 = .returned (.tuple #[]) ∧ (Calls Try.prog 79 #[.pointer (some at0), .int .i64 xt1] w43 fun e44 w45 => e44 = .returned (.tuple #[]) ∧ (Calls Try.prog 78 #[.pointer (some at0), .int .i64 xt1] w45 fun e46 w47 => ∃ x48, e46 = .returned (.int .i64 x48) ∧ (l2 k at0 xt1 x48 w47 K4))))))) (K4 w)
def wp (aa0 : Addr) (xa1 : Int) (w : World) (Q : Ending → World → Prop) : Prop := alW w (.cells #[.int .i64 xa1] 3) fun B1 w2 => ∃ k52, l0 k52 aa0 (some ⟨B1, 0, none⟩) 1 1 xa1 w2 (fun A14 n14 c14 w15 => ∀ _ : Fr, ∃ k51, l1 k51 aa0 A14 n14 c14 (IntKind.i64.wrap ((n14 : Int) - 1)) w15 (fun w20 => ∀ _ : Fr, Calls Try.prog 78 #[.pointer (some aa0), .int .i64 xa1] w20 fun e21 w22 => ∃ x23, e21 = .returned (.int .i64 x23) ∧ (∃ k50, l2 k50 aa0 xa1 x23 w22 (fun w49 => ∀ _ : Fr, Q (.returned (.tuple #[])) w49))))
def D : Nat → Option DH := dtab []
def l0LO : LO := ⟨[], [], [(0, [0, 1, 4])], []⟩
def l0Tk (k : Nat) : Spec := fun Q σ w => gAd (σ 0) fun at0 => gSlice (σ 4) fun At4 nt4 ct4 => gInt .i64 (σ 5) fun xt5 => l0 k at0 At4 nt4 ct4 xt5 w (fun Aq4 nq4 cq4 w => ∀ d : Fr, Q (.exit 0) (ov d [(0, .pointer (some at0)), (1, σ 1), (4, .slice Aq4 nq4 cq4)]) w)
def l0T : Spec := fun Q σ w => ∃ k, l0Tk k Q σ w
def l0tb : List (List Nat × Spec) := []
noncomputable def l0b : Code := (subC [0, 0, 1, 0, 1] body).getD .skip
theorem l0_eq (k : Nat) (at0 : Addr) (At4 : Option Addr) (nt4 ct4 : Nat) (xt5 : Int) (Q : PQ) (σ : Fr) (w : World) : l0 (k + 1) at0 At4 nt4 ct4 xt5 w (fun Aq4 nq4 cq4 w => ∀ d : Fr, Q (.exit 0) (ov d [(0, .pointer (some at0)), (1, σ 1), (4, .slice Aq4 nq4 cq4)]) w) = codeW Try.prog hT 74 D (tab l0tb) [0, 0, 1, 0, 1] l0b (thenQ (l0Tk k Q) (widen l0LO Q)) (ov σ [(0, .pointer (some at0)), (4, .slice At4 nt4 ct4), (5, .int .i64 xt5)]) w := by kernel_rfl
theorem l0_snd : ∀ c, subC [0, 1, 0, 1] body = some c → Snd Try.prog 74 c l0T := by
 refine loop_of (hT := hT) (D := D) (l := l0tb) (b := l0b) (lo := l0LO) (by kernel_rfl) (by
  intro x hx
  simp only [l0tb, List.not_mem_nil] at hx
  ) (by kernel_rfl) (by kernel_rfl) ?_ ?_
 ·intro Q σ w h
  unfold l0Tk at h
  obtain ⟨_, _, h⟩ := gAd_elim h
  obtain ⟨_, _, _, _, h⟩ := gSlice_elim h
  obtain ⟨_, _, h⟩ := gInt_elim h
  exact h
 ·intro k Q σ w h
  unfold l0Tk at h
  obtain ⟨at0, h0, h⟩ := gAd_elim h
  obtain ⟨At4, nt4, ct4, h4, h⟩ := gSlice_elim h
  obtain ⟨xt5, h5, h⟩ := gInt_elim h
  rw [l0_eq (σ := σ)] at h
  have e : (ov σ [(0, .pointer (some at0)), (4, .slice At4 nt4 ct4), (5, .int .i64 xt5)]) = σ := ov_self (by simp [h0, h4, h5])
  rw [e] at h
  exact h
def l1LO : LO := ⟨[], [], [(2, [0, 1])], []⟩
def l1Tk (k : Nat) : Spec := fun Q σ w => gAd (σ 0) fun at0 => gSlice (σ 4) fun At4 nt4 ct4 => gInt .i64 (σ 6) fun xt6 => l1 k at0 At4 nt4 ct4 xt6 w (fun w => ∀ d : Fr, Q (.exit 2) (ov d [(0, .pointer (some at0)), (1, σ 1)]) w)
def l1T : Spec := fun Q σ w => ∃ k, l1Tk k Q σ w
def l1tb : List (List Nat × Spec) := []
noncomputable def l1b : Code := (subC [0, 0, 1, 0, 1, 1] body).getD .skip
theorem l1_eq (k : Nat) (at0 : Addr) (At4 : Option Addr) (nt4 ct4 : Nat) (xt6 : Int) (Q : PQ) (σ : Fr) (w : World) : l1 (k + 1) at0 At4 nt4 ct4 xt6 w (fun w => ∀ d : Fr, Q (.exit 2) (ov d [(0, .pointer (some at0)), (1, σ 1)]) w) = codeW Try.prog hT 74 D (tab l1tb) [0, 0, 1, 0, 1, 1] l1b (thenQ (l1Tk k Q) (widen l1LO Q)) (ov σ [(0, .pointer (some at0)), (4, .slice At4 nt4 ct4), (6, .int .i64 xt6)]) w := by kernel_rfl
theorem l1_snd : ∀ c, subC [0, 1, 0, 1, 1] body = some c → Snd Try.prog 74 c l1T := by
 refine loop_of (hT := hT) (D := D) (l := l1tb) (b := l1b) (lo := l1LO) (by kernel_rfl) (by
  intro x hx
  simp only [l1tb, List.not_mem_nil] at hx
  ) (by kernel_rfl) (by kernel_rfl) ?_ ?_
 ·intro Q σ w h
  unfold l1Tk at h
  obtain ⟨_, _, h⟩ := gAd_elim h
  obtain ⟨_, _, _, _, h⟩ := gSlice_elim h
  obtain ⟨_, _, h⟩ := gInt_elim h
  exact h
 ·intro k Q σ w h
  unfold l1Tk at h
  obtain ⟨at0, h0, h⟩ := gAd_elim h
  obtain ⟨At4, nt4, ct4, h4, h⟩ := gSlice_elim h
  obtain ⟨xt6, h6, h⟩ := gInt_elim h
  rw [l1_eq (σ := σ)] at h
  have e : (ov σ [(0, .pointer (some at0)), (4, .slice At4 nt4 ct4), (6, .int .i64 xt6)]) = σ := ov_self (by simp [h0, h4, h6])
  rw [e] at h
  exact h
def l2LO : LO := ⟨[], [], [(4, [])], []⟩
def l2Tk (k : Nat) : Spec := fun Q σ w => gAd (σ 0) fun at0 => gInt .i64 (σ 1) fun xt1 => gInt .i64 (σ 7) fun xt7 => l2 k at0 xt1 xt7 w (fun w => ∀ d : Fr, Q (.exit 4) (ov d []) w)
def l2T : Spec := fun Q σ w => ∃ k, l2Tk k Q σ w
def l2tb : List (List Nat × Spec) := []
noncomputable def l2b : Code := (subC [0, 0, 1, 1, 1, 1] body).getD .skip
theorem l2_eq (k : Nat) (at0 : Addr) (xt1 xt7 : Int) (Q : PQ) (σ : Fr) (w : World) : l2 (k + 1) at0 xt1 xt7 w (fun w => ∀ d : Fr, Q (.exit 4) (ov d []) w) = codeW Try.prog hT 74 D (tab l2tb) [0, 0, 1, 1, 1, 1] l2b (thenQ (l2Tk k Q) (widen l2LO Q)) (ov σ [(0, .pointer (some at0)), (1, .int .i64 xt1), (7, .int .i64 xt7)]) w := by kernel_rfl
theorem l2_snd : ∀ c, subC [0, 1, 1, 1, 1] body = some c → Snd Try.prog 74 c l2T := by
 refine loop_of (hT := hT) (D := D) (l := l2tb) (b := l2b) (lo := l2LO) (by kernel_rfl) (by
  intro x hx
  simp only [l2tb, List.not_mem_nil] at hx
  ) (by kernel_rfl) (by kernel_rfl) ?_ ?_
 ·intro Q σ w h
  unfold l2Tk at h
  obtain ⟨_, _, h⟩ := gAd_elim h
  obtain ⟨_, _, h⟩ := gInt_elim h
  obtain ⟨_, _, h⟩ := gInt_elim h
  exact h
 ·intro k Q σ w h
  unfold l2Tk at h
  obtain ⟨at0, h0, h⟩ := gAd_elim h
  obtain ⟨xt1, h1, h⟩ := gInt_elim h
  obtain ⟨xt7, h7, h⟩ := gInt_elim h
  rw [l2_eq (σ := σ)] at h
  have e : (ov σ [(0, .pointer (some at0)), (1, .int .i64 xt1), (7, .int .i64 xt7)]) = σ := ov_self (by simp [h0, h1, h7])
  rw [e] at h
  exact h
def tb : List (List Nat × Spec) := [([0, 1, 0, 1], l0T), ([0, 1, 0, 1, 1], l1T), ([0, 1, 1, 1, 1], l2T)]
variable (aa0 : Addr) (xa1 : Int) (w : World) (Q : Ending → World → Prop)
theorem wp_eq : wp aa0 xa1 w Q = codeW Try.prog hT 74 D (tab tb) [] body (topQ Try.prog hT 74 [] Q) (argsF [.pointer (some aa0), .int .i64 xa1]) w := by kernel_rfl
theorem ok (h : wp aa0 xa1 w Q) : Calls Try.prog 74 #[.pointer (some aa0), .int .i64 xa1] w Q := by
 rw [wp_eq] at h
 refine calls_of_codeW (c := body) (rs := []) Try.func74 ?_ ?_ ?_ ?_ ?_ (tab_snd (by
  intro x hx
  simp only [tb, List.mem_cons, List.not_mem_nil, or_false] at hx
  rcases hx with rfl | rfl | rfl
  ·exact l0_snd
  ·exact l1_snd
  ·exact l2_snd)) ?_ h <;> kernel_rfl
end f_linkcut_Forest_splay
namespace f_linkcut_Forest_pull
noncomputable def body : Code := (Try.f75.body).getD .skip
def l1 : Nat → Addr → Addr → Int → Int → Int → World → (World → Prop) → Prop | 0, _, _, _, _, _, _, _ => False | k + 1, at0, at4, xt41_0, xt41_1, xt42, w, K0 => sel (decide (xt42 < 2)) (req (true && decide (0 ≤ xt42 ∧ xt42 < ((2 : Nat) : Int))) <| idxI (#[.int .i64 xt41_0, .int .i64 xt41_1] : Array Value) xt42.toNat .i64 fun x20 => sel (decide (x20 > 0)) (drW w fun w21 => ∃ S22 : World → Prop, S22 w21 ∧ (hdI S22 (at4.add 8) .i64 fun x23 => hdI S22 ((at4.add 8).add 1) .i64 fun x24 => hdI S22 ((at4.add 8).add 2) .i64 fun x25 => hdI S22 ((at4.add 8).add 3) .i64 fun x26 => hdS S22 at0 fun A27 n27 c27 => optB A27 fun a28 => req (decide (0 ≤ x20 ∧ x20 < (n27 : Int))) <| hdI S22 ((a28.add (x20.toNat * 13)).add 8) .i64 fun x29 => hdI S22 (((a28.add (x20.toNat * 13)).add 8).add 1) .i64 fun x30 => hdI S22 (((a28.add (x20.toNat * 13)).add 8).add 2) .i64 fun x31 => hdI S22 (((a28.add (x20.toNat * 13)).add 8).add 3) .i64 fun x32 => Calls Try.prog 80 #[.agg #[.int .i64 x23, .int .i64 x24, .int .i64 x25, .int .i64 x26], .agg #[.int .i64 x29, .int .i64 x30, .int .i64 x31, .int .i64 x32]] w21 fun e33 w34 => ∃ x35_0 x35_1 x35_2 x35_3, e33 = .returned (.agg #[.int .i64 x35_0, .int .i64 x35_1, .int .i64 x35_2, .int .i64 x35_3]) ∧ (S22 w34 ∧ (stW w34 (at4.add 8) (.int .i64 x35_0) fun w36 => stW w36 ((at4.add 8).add 1) (.int .i64 x35_1) fun w37 => stW w37 ((at4.add 8).add 2) (.int .i64 x35_2) fun w38 => stW w38 ((at4.add 8).add 3) (.int .i64 x35_3) fun w39 => drW w39 fun w40 => ldC w40 ((at4.add 8).add 4) .f64 fun r42 i42 => ldS w40 at0 fun A43 n43 c43 => optB A43 fun a44 => req (decide (0 ≤ x20 ∧ x20 < (n43 : Int))) <| ldC w40 (((a44.add (x20.toNat * 13)).add 8).add 4) .f64 fun r45 i45 => Runs Try.prog (do eqGuard .add 67 (.tmp 70) (.tmp 79) (.complex .f64 r42 i42) (.complex .f64 r45 i45); binOp .add 67 (.complex .f64 r42 i42) (.complex .f64 r45 i45) : Sem Value) w40 fun v47 w46 => ∃ r48 i48, v47 = (.complex .f64 r48 i48) ∧ (stW w46 ((at4.add 8).add 4) (.complex .f64 r48 i48) fun w49 => l1 k at0 at4 xt41_0 xt41_1 (IntKind.i64.wrap (xt42 + 1)) w49 K0))))) (l1 k at0 at4 xt41_0 xt41_1 (IntKind.i64.wrap (xt42 + 1)) w K0)) (K0 w)
def j0 (at0 at4 : Addr) (w : World) (Kn : World → Prop) : Prop := ldI w at4 .i64 fun x18 => ldI w (at4.add 1) .i64 fun x19 => ∃ k51, l1 k51 at0 at4 x18 x19 0 w (fun w50 => ∀ _ : Fr, Kn w50)
def wp (aa0 : Addr) (xa1 : Int) (w : World) (Q : Ending → World → Prop) : Prop := ldS w aa0 fun A1 n1 c1 => optB A1 fun a2 => req (decide (0 ≤ xa1 ∧ xa1 < (n1 : Int))) <| ldI w ((a2.add (xa1.toNat * 13)).add 4) .i64 fun x3 => ldI w (((a2.add (xa1.toNat * 13)).add 4).add 1) .i64 fun x4 => ldI w (((a2.add (xa1.toNat * 13)).add 4).add 2) .i64 fun x5 => ldI w (((a2.add (xa1.toNat * 13)).add 4).add 3) .i64 fun x6 => stW w ((a2.add (xa1.toNat * 13)).add 8) (.int .i64 x3) fun w7 => stW w7 (((a2.add (xa1.toNat * 13)).add 8).add 1) (.int .i64 x4) fun w8 => stW w8 (((a2.add (xa1.toNat * 13)).add 8).add 2) (.int .i64 x5) fun w9 => stW w9 (((a2.add (xa1.toNat * 13)).add 8).add 3) (.int .i64 x6) fun w10 => stW w10 (((a2.add (xa1.toNat * 13)).add 8).add 4) (.complex .f64 0 0) fun w11 => ldI w11 ((a2.add (xa1.toNat * 13)).add 4) .i64 fun x12 => sel (decide (x12 > 0)) (ldI w11 (((a2.add (xa1.toNat * 13)).add 4).add 3) .i64 fun x13 => Runs Try.prog (Go.convert 2 72 (.int .i64 x13)) w11 fun v15 w14 => ∃ f16, v15 = (.float .f64 f16) ∧ (stW w14 (((a2.add (xa1.toNat * 13)).add 8).add 4) (.complex .f64 f16 4607182418800017408) fun w17 => j0 aa0 (a2.add (xa1.toNat * 13)) w17 (fun w52 => ∀ _ : Fr, Q (.returned (.tuple #[])) w52))) (j0 aa0 (a2.add (xa1.toNat * 13)) w11 (fun w53 => ∀ _ : Fr, Q (.returned (.tuple #[])) w53))
def D : Nat → Option DH := dtab [(8, .held [.fst 0, .fst 1, .fst 2, .fst 3, .fst 4, .fst 5, .fst 6, .fst 7, .fst 8, .fst 9, .fst 10, .fst 11, .fst 12, .fst 13, .fst 14, .eff 15] [.fst 16, .fst 17, .fst 18, .eff 19]), (9, .simple [.fst 0, .fst 1, .fst 2, .fst 3, .fst 4, .fst 5, .fst 6, .fst 7, .fst 8, .fst 9, .fst 10, .fst 11, .fst 12, .fst 13] [.eff 14, .fst 15, .fst 16, .fst 17, .eff 18])]
def l1LO : LO := ⟨[], [], [(0, [])], []⟩
def l1Tk (k : Nat) : Spec := fun Q σ w => gAd (σ 0) fun at0 => gAd (σ 4) fun at4 => gAgg (σ 41) fun l54 => gCons l54 fun h57 l55 => gInt .i64 h57 fun xt41_0 => gCons l55 fun h58 l56 => gInt .i64 h58 fun xt41_1 => gNil l56 <| gInt .i64 (σ 42) fun xt42 => l1 k at0 at4 xt41_0 xt41_1 xt42 w (fun w => ∀ d : Fr, Q (.exit 0) (ov d []) w)
def l1T : Spec := fun Q σ w => ∃ k, l1Tk k Q σ w
def l1tb : List (List Nat × Spec) := []
noncomputable def l1b : Code := (subC [0, 0, 1, 1, 1, 1] body).getD .skip
theorem l1_eq (k : Nat) (at0 at4 : Addr) (xt41_0 xt41_1 xt42 : Int) (Q : PQ) (σ : Fr) (w : World) : l1 (k + 1) at0 at4 xt41_0 xt41_1 xt42 w (fun w => ∀ d : Fr, Q (.exit 0) (ov d []) w) = codeW Try.prog hT 85 D (tab l1tb) [0, 0, 1, 1, 1, 1] l1b (thenQ (l1Tk k Q) (widen l1LO Q)) (ov σ [(0, .pointer (some at0)), (4, .pointer (some at4)), (41, .agg #[.int .i64 xt41_0, .int .i64 xt41_1]), (42, .int .i64 xt42)]) w := by kernel_rfl
theorem l1_snd : ∀ c, subC [0, 1, 1, 1, 1] body = some c → Snd Try.prog 85 c l1T := by
 refine loop_of (hT := hT) (D := D) (l := l1tb) (b := l1b) (lo := l1LO) (by kernel_rfl) (by
  intro x hx
  simp only [l1tb, List.not_mem_nil] at hx
  ) (by kernel_rfl) (by kernel_rfl) ?_ ?_
 ·intro Q σ w h
  unfold l1Tk at h
  obtain ⟨at0, h0, h⟩ := gAd_elim h
  obtain ⟨at4, h4, h⟩ := gAd_elim h
  obtain ⟨lh41, h41, h⟩ := gAgg_elim h
  obtain ⟨hdh41_0, tlh41_0, eh41_0, hn⟩ := gCons_elim h
  clear h
  have h := hn
  clear hn
  subst eh41_0
  obtain ⟨xt41_0, fh41_0, hn⟩ := gInt_elim h
  clear h
  have h := hn
  clear hn
  subst fh41_0
  obtain ⟨hdh41_1, tlh41_1, eh41_1, hn⟩ := gCons_elim h
  clear h
  have h := hn
  clear hn
  subst eh41_1
  obtain ⟨xt41_1, fh41_1, hn⟩ := gInt_elim h
  clear h
  have h := hn
  clear hn
  subst fh41_1
  obtain ⟨eh41, hn⟩ := gNil_elim h
  clear h
  have h := hn
  clear hn
  subst eh41
  obtain ⟨xt42, h42, h⟩ := gInt_elim h
  exact h
 ·intro k Q σ w h
  unfold l1Tk at h
  obtain ⟨at0, h0, h⟩ := gAd_elim h
  obtain ⟨at4, h4, h⟩ := gAd_elim h
  obtain ⟨lh41, h41, h⟩ := gAgg_elim h
  obtain ⟨hdh41_0, tlh41_0, eh41_0, hn⟩ := gCons_elim h
  clear h
  have h := hn
  clear hn
  subst eh41_0
  obtain ⟨xt41_0, fh41_0, hn⟩ := gInt_elim h
  clear h
  have h := hn
  clear hn
  subst fh41_0
  obtain ⟨hdh41_1, tlh41_1, eh41_1, hn⟩ := gCons_elim h
  clear h
  have h := hn
  clear hn
  subst eh41_1
  obtain ⟨xt41_1, fh41_1, hn⟩ := gInt_elim h
  clear h
  have h := hn
  clear hn
  subst fh41_1
  obtain ⟨eh41, hn⟩ := gNil_elim h
  clear h
  have h := hn
  clear hn
  subst eh41
  obtain ⟨xt42, h42, h⟩ := gInt_elim h
  rw [l1_eq (σ := σ)] at h
  have e : (ov σ [(0, .pointer (some at0)), (4, .pointer (some at4)), (41, .agg #[.int .i64 xt41_0, .int .i64 xt41_1]), (42, .int .i64 xt42)]) = σ := ov_self (by simp [h0, h4, h41, h42])
  rw [e] at h
  exact h
def j0LO : LO := ⟨[], [], [], []⟩
def j0T : Spec := fun Q σ w => gAd (σ 0) fun at0 => gAd (σ 4) fun at4 => j0 at0 at4 w (fun w => ∀ d : Fr, Q .normal (ov d []) w)
def j0tb : List (List Nat × Spec) := [([0, 1, 1, 1, 1], l1T)]
noncomputable def j0b : Code := (subC [1, 1, 1] body).getD .skip
theorem j0_eq (at0 at4 : Addr) (Q : PQ) (σ : Fr) (w : World) : j0 at0 at4 w (fun w => ∀ d : Fr, Q .normal (ov d []) w) = codeW Try.prog hT 85 D (tab j0tb) [1, 1, 1] j0b (widen j0LO Q) (ov σ [(0, .pointer (some at0)), (4, .pointer (some at4))]) w := by kernel_rfl
theorem j0_snd : ∀ c, subC [1, 1, 1] body = some c → Snd Try.prog 85 c j0T := by
 refine cut_of (hT := hT) (D := D) (l := j0tb) (b := j0b) (lo := j0LO) (by kernel_rfl) (by
  intro x hx
  simp only [j0tb, List.mem_cons, List.not_mem_nil, or_false] at hx
  subst hx
  exact l1_snd) (by kernel_rfl) (by kernel_rfl) ?_
 intro Q σ w h
 unfold j0T at h
 obtain ⟨at0, h0, h⟩ := gAd_elim h
 obtain ⟨at4, h4, h⟩ := gAd_elim h
 rw [j0_eq (σ := σ)] at h
 have e : (ov σ [(0, .pointer (some at0)), (4, .pointer (some at4))]) = σ := ov_self (by simp [h0, h4])
 rw [e] at h
 exact h
def tb : List (List Nat × Spec) := [([0, 1, 1, 1, 1], l1T), ([1, 1, 1], j0T)]
variable (aa0 : Addr) (xa1 : Int) (w : World) (Q : Ending → World → Prop)
theorem wp_eq : wp aa0 xa1 w Q = codeW Try.prog hT 85 D (tab tb) [] body (topQ Try.prog hT 85 [] Q) (argsF [.pointer (some aa0), .int .i64 xa1]) w := by kernel_rfl
theorem ok (h : wp aa0 xa1 w Q) : Calls Try.prog 75 #[.pointer (some aa0), .int .i64 xa1] w Q := by
 rw [wp_eq] at h
 refine calls_of_codeW (c := body) (rs := []) Try.func75 ?_ ?_ ?_ ?_ ?_ (tab_snd (by
  intro x hx
  simp only [tb, List.mem_cons, List.not_mem_nil, or_false] at hx
  rcases hx with rfl | rfl
  ·exact l1_snd
  ·exact j0_snd)) ?_ h <;> kernel_rfl
end f_linkcut_Forest_pull
namespace f_linkcut_Forest_side
noncomputable def body : Code := (Try.f78.body).getD .skip
def wp (aa0 : Addr) (xa1 : Int) (w : World) (Q : Ending → World → Prop) : Prop := ldS w aa0 fun A1 n1 c1 => optB A1 fun a2 => req (decide (0 ≤ xa1 ∧ xa1 < (n1 : Int))) <| ldI w ((a2.add (xa1.toNat * 13)).add 2) .i64 fun x3 => sel (decide (x3 > 0)) (ldS w aa0 fun A4 n4 c4 => optB A4 fun a5 => req (decide (0 ≤ x3 ∧ x3 < (n4 : Int))) <| ldI w ((a5.add (x3.toNat * 13)).add ((0 : Int).toNat * 1)) .i64 fun x6 => sel (x6 == xa1) (Q (.returned (.int .i64 0)) w) (sel (decide (x3 > 0)) (ldS w aa0 fun A7 n7 c7 => optB A7 fun a8 => req (decide (0 ≤ x3 ∧ x3 < (n7 : Int))) <| ldI w ((a8.add (x3.toNat * 13)).add ((1 : Int).toNat * 1)) .i64 fun x9 => sel (x9 == xa1) (Q (.returned (.int .i64 1)) w) (Q (.returned (.int .i64 (-1 : Int))) w)) (Q (.returned (.int .i64 (-1 : Int))) w))) (sel (decide (x3 > 0)) (ldS w aa0 fun A10 n10 c10 => optB A10 fun a11 => req (decide (0 ≤ x3 ∧ x3 < (n10 : Int))) <| ldI w ((a11.add (x3.toNat * 13)).add ((1 : Int).toNat * 1)) .i64 fun x12 => sel (x12 == xa1) (Q (.returned (.int .i64 1)) w) (Q (.returned (.int .i64 (-1 : Int))) w)) (Q (.returned (.int .i64 (-1 : Int))) w))
def D : Nat → Option DH := dtab []
def tb : List (List Nat × Spec) := []
variable (aa0 : Addr) (xa1 : Int) (w : World) (Q : Ending → World → Prop)
theorem wp_eq : wp aa0 xa1 w Q = codeW Try.prog hT 46 D (tab tb) [] body (topQ Try.prog hT 46 [.tmp 4] Q) (argsF [.pointer (some aa0), .int .i64 xa1]) w := by kernel_rfl
theorem ok (h : wp aa0 xa1 w Q) : Calls Try.prog 78 #[.pointer (some aa0), .int .i64 xa1] w Q := by
 rw [wp_eq] at h
 refine calls_of_codeW (c := body) (rs := [.tmp 4]) Try.func78 ?_ ?_ ?_ ?_ ?_ (tab_snd (by
  intro x hx
  simp only [tb, List.not_mem_nil] at hx
  )) ?_ h <;> kernel_rfl
end f_linkcut_Forest_side
namespace f_linkcut_Forest_rotate
noncomputable def body : Code := (Try.f79.body).getD .skip
def wp (aa0 : Addr) (xa1 : Int) (w : World) (Q : Ending → World → Prop) : Prop := ldS w aa0 fun A1 n1 c1 => optB A1 fun a2 => req (decide (0 ≤ xa1 ∧ xa1 < (n1 : Int))) <| ldI w ((a2.add (xa1.toNat * 13)).add 2) .i64 fun x3 => drW w fun w4 => ∃ S5 : World → Prop, S5 w4 ∧ (hdS S5 aa0 fun A6 n6 c6 => optB A6 fun a7 => req (decide (0 ≤ x3 ∧ x3 < (n6 : Int))) <| hdI S5 ((a7.add (x3.toNat * 13)).add 2) .i64 fun x8 => Calls Try.prog 78 #[.pointer (some aa0), .int .i64 xa1] w4 fun e9 w10 => ∃ x11, e9 = .returned (.int .i64 x11) ∧ (S5 w10 ∧ (Calls Try.prog 78 #[.pointer (some aa0), .int .i64 x3] w10 fun e12 w13 => ∃ x14, e12 = .returned (.int .i64 x14) ∧ (S5 w13 ∧ (ldS w13 aa0 fun A15 n15 c15 => optB A15 fun a16 => req (decide (0 ≤ xa1 ∧ xa1 < (n15 : Int))) <| req (decide (0 ≤ (IntKind.i64.wrap (1 - x11)) ∧ (IntKind.i64.wrap (1 - x11)) < ((2 : Nat) : Int))) <| ldI w13 ((a16.add (xa1.toNat * 13)).add ((IntKind.i64.wrap (1 - x11)).toNat * 1)) .i64 fun x17 => Calls Try.prog 81 #[.pointer (some aa0), .int .i64 x3, .int .i64 x17, .int .i64 x11] w13 fun e18 w19 => e18 = .returned (.tuple #[]) ∧ (Calls Try.prog 81 #[.pointer (some aa0), .int .i64 xa1, .int .i64 x3, .int .i64 (IntKind.i64.wrap (1 - x11))] w19 fun e20 w21 => e20 = .returned (.tuple #[]) ∧ (ldS w21 aa0 fun A22 n22 c22 => optB A22 fun a23 => req (decide (0 ≤ xa1 ∧ xa1 < (n22 : Int))) <| stW w21 ((a23.add (xa1.toNat * 13)).add 2) (.int .i64 x8) fun w24 => sel (decide (x14 ≥ 0)) (ldS w24 aa0 fun A25 n25 c25 => optB A25 fun a26 => req (decide (0 ≤ x8 ∧ x8 < (n25 : Int))) <| req (decide (0 ≤ x14 ∧ x14 < ((2 : Nat) : Int))) <| stW w24 ((a26.add (x8.toNat * 13)).add (x14.toNat * 1)) (.int .i64 xa1) fun w27 => Calls Try.prog 75 #[.pointer (some aa0), .int .i64 x3] w27 fun e28 w29 => e28 = .returned (.tuple #[]) ∧ (Calls Try.prog 75 #[.pointer (some aa0), .int .i64 xa1] w29 fun e30 w31 => e30 = .returned (.tuple #[]) ∧ (Q (.returned (.tuple #[])) w31))) (Calls Try.prog 75 #[.pointer (some aa0), .int .i64 x3] w24 fun e32 w33 => e32 = .returned (.tuple #[]) ∧ (Calls Try.prog 75 #[.pointer (some aa0), .int .i64 xa1] w33 fun e34 w35 => e34 = .returned (.tuple #[]) ∧ (Q (.returned (.tuple #[])) w35))))))))))
def D : Nat → Option DH := dtab [(1, .held [.fst 0, .fst 1, .fst 2, .fst 3, .fst 4, .fst 5, .fst 6, .fst 7, .fst 8, .fst 9, .fst 11, .fst 12, .eff 10, .eff 13] [.fst 14, .fst 15, .fst 16])]
def tb : List (List Nat × Spec) := []
variable (aa0 : Addr) (xa1 : Int) (w : World) (Q : Ending → World → Prop)
theorem wp_eq : wp aa0 xa1 w Q = codeW Try.prog hT 77 D (tab tb) [] body (topQ Try.prog hT 77 [] Q) (argsF [.pointer (some aa0), .int .i64 xa1]) w := by kernel_rfl
theorem ok (h : wp aa0 xa1 w Q) : Calls Try.prog 79 #[.pointer (some aa0), .int .i64 xa1] w Q := by
 rw [wp_eq] at h
 refine calls_of_codeW (c := body) (rs := []) Try.func79 ?_ ?_ ?_ ?_ ?_ (tab_snd (by
  intro x hx
  simp only [tb, List.not_mem_nil] at hx
  )) ?_ h <;> kernel_rfl
end f_linkcut_Forest_rotate
namespace f_linkcut_greater
noncomputable def body : Code := (Try.f80.body).getD .skip
def wp (xa0_0 xa0_1 xa0_2 xa0_3 xa1_0 xa1_1 xa1_2 xa1_3 : Int) (w : World) (Q : Ending → World → Prop) : Prop := alW w (.cells #[.int .i64 xa0_0, .int .i64 xa0_1, .int .i64 xa0_2, .int .i64 xa0_3] 33) fun B1 w2 => alW w2 (.cells #[.int .i64 xa1_0, .int .i64 xa1_1, .int .i64 xa1_2, .int .i64 xa1_3] 33) fun B3 w4 => alW w4 (.cells #[.int .i64 0, .int .i64 0, .int .i64 0, .int .i64 0] 33) fun B5 w6 => ldI w6 ⟨B1, 0, none⟩ .i64 fun x7 => sel (x7 == 0) (ldI w6 ⟨B3, 0, none⟩ .i64 fun x8 => ldI w6 (.add ⟨B3, 0, none⟩ 1) .i64 fun x9 => ldI w6 (.add ⟨B3, 0, none⟩ 2) .i64 fun x10 => ldI w6 (.add ⟨B3, 0, none⟩ 3) .i64 fun x11 => stW w6 ⟨B5, 0, none⟩ (.int .i64 x8) fun w12 => stW w12 (.add ⟨B5, 0, none⟩ 1) (.int .i64 x9) fun w13 => stW w13 (.add ⟨B5, 0, none⟩ 2) (.int .i64 x10) fun w14 => stW w14 (.add ⟨B5, 0, none⟩ 3) (.int .i64 x11) fun w15 => ldI w15 ⟨B5, 0, none⟩ .i64 fun x16 => ldI w15 (.add ⟨B5, 0, none⟩ 1) .i64 fun x17 => ldI w15 (.add ⟨B5, 0, none⟩ 2) .i64 fun x18 => ldI w15 (.add ⟨B5, 0, none⟩ 3) .i64 fun x19 => Q (.returned (.agg #[.int .i64 x16, .int .i64 x17, .int .i64 x18, .int .i64 x19])) w15) (ldI w6 ⟨B3, 0, none⟩ .i64 fun x20 => sel (decide (x20 > 0)) (ldI w6 (.add ⟨B1, 0, none⟩ 3) .i64 fun x21 => ldI w6 (.add ⟨B3, 0, none⟩ 3) .i64 fun x22 => sel (decide (x21 < x22)) (ldI w6 ⟨B3, 0, none⟩ .i64 fun x23 => ldI w6 (.add ⟨B3, 0, none⟩ 1) .i64 fun x24 => ldI w6 (.add ⟨B3, 0, none⟩ 2) .i64 fun x25 => ldI w6 (.add ⟨B3, 0, none⟩ 3) .i64 fun x26 => stW w6 ⟨B5, 0, none⟩ (.int .i64 x23) fun w27 => stW w27 (.add ⟨B5, 0, none⟩ 1) (.int .i64 x24) fun w28 => stW w28 (.add ⟨B5, 0, none⟩ 2) (.int .i64 x25) fun w29 => stW w29 (.add ⟨B5, 0, none⟩ 3) (.int .i64 x26) fun w30 => ldI w30 ⟨B5, 0, none⟩ .i64 fun x31 => ldI w30 (.add ⟨B5, 0, none⟩ 1) .i64 fun x32 => ldI w30 (.add ⟨B5, 0, none⟩ 2) .i64 fun x33 => ldI w30 (.add ⟨B5, 0, none⟩ 3) .i64 fun x34 => Q (.returned (.agg #[.int .i64 x31, .int .i64 x32, .int .i64 x33, .int .i64 x34])) w30) (ldI w6 (.add ⟨B1, 0, none⟩ 3) .i64 fun x35 => ldI w6 (.add ⟨B3, 0, none⟩ 3) .i64 fun x36 => sel (x35 == x36) (ldI w6 ⟨B1, 0, none⟩ .i64 fun x37 => ldI w6 ⟨B3, 0, none⟩ .i64 fun x38 => sel (decide (x37 < x38)) (ldI w6 ⟨B3, 0, none⟩ .i64 fun x39 => ldI w6 (.add ⟨B3, 0, none⟩ 1) .i64 fun x40 => ldI w6 (.add ⟨B3, 0, none⟩ 2) .i64 fun x41 => ldI w6 (.add ⟨B3, 0, none⟩ 3) .i64 fun x42 => stW w6 ⟨B5, 0, none⟩ (.int .i64 x39) fun w43 => stW w43 (.add ⟨B5, 0, none⟩ 1) (.int .i64 x40) fun w44 => stW w44 (.add ⟨B5, 0, none⟩ 2) (.int .i64 x41) fun w45 => stW w45 (.add ⟨B5, 0, none⟩ 3) (.int .i64 x42) fun w46 => ldI w46 ⟨B5, 0, none⟩ .i64 fun x47 => ldI w46 (.add ⟨B5, 0, none⟩ 1) .i64 fun x48 => ldI w46 (.add ⟨B5, 0, none⟩ 2) .i64 fun x49 => ldI w46 (.add ⟨B5, 0, none⟩ 3) .i64 fun x50 => Q (.returned (.agg #[.int .i64 x47, .int .i64 x48, .int .i64 x49, .int .i64 x50])) w46) (ldI w6 ⟨B1, 0, none⟩ .i64 fun x51 => ldI w6 (.add ⟨B1, 0, none⟩ 1) .i64 fun x52 => ldI w6 (.add ⟨B1, 0, none⟩ 2) .i64 fun x53 => ldI w6 (.add ⟨B1, 0, none⟩ 3) .i64 fun x54 => stW w6 ⟨B5, 0, none⟩ (.int .i64 x51) fun w55 => stW w55 (.add ⟨B5, 0, none⟩ 1) (.int .i64 x52) fun w56 => stW w56 (.add ⟨B5, 0, none⟩ 2) (.int .i64 x53) fun w57 => stW w57 (.add ⟨B5, 0, none⟩ 3) (.int .i64 x54) fun w58 => ldI w58 ⟨B5, 0, none⟩ .i64 fun x59 => ldI w58 (.add ⟨B5, 0, none⟩ 1) .i64 fun x60 => ldI w58 (.add ⟨B5, 0, none⟩ 2) .i64 fun x61 => ldI w58 (.add ⟨B5, 0, none⟩ 3) .i64 fun x62 => Q (.returned (.agg #[.int .i64 x59, .int .i64 x60, .int .i64 x61, .int .i64 x62])) w58)) (ldI w6 ⟨B1, 0, none⟩ .i64 fun x63 => ldI w6 (.add ⟨B1, 0, none⟩ 1) .i64 fun x64 => ldI w6 (.add ⟨B1, 0, none⟩ 2) .i64 fun x65 => ldI w6 (.add ⟨B1, 0, none⟩ 3) .i64 fun x66 => stW w6 ⟨B5, 0, none⟩ (.int .i64 x63) fun w67 => stW w67 (.add ⟨B5, 0, none⟩ 1) (.int .i64 x64) fun w68 => stW w68 (.add ⟨B5, 0, none⟩ 2) (.int .i64 x65) fun w69 => stW w69 (.add ⟨B5, 0, none⟩ 3) (.int .i64 x66) fun w70 => ldI w70 ⟨B5, 0, none⟩ .i64 fun x71 => ldI w70 (.add ⟨B5, 0, none⟩ 1) .i64 fun x72 => ldI w70 (.add ⟨B5, 0, none⟩ 2) .i64 fun x73 => ldI w70 (.add ⟨B5, 0, none⟩ 3) .i64 fun x74 => Q (.returned (.agg #[.int .i64 x71, .int .i64 x72, .int .i64 x73, .int .i64 x74])) w70))) (ldI w6 ⟨B1, 0, none⟩ .i64 fun x75 => ldI w6 (.add ⟨B1, 0, none⟩ 1) .i64 fun x76 => ldI w6 (.add ⟨B1, 0, none⟩ 2) .i64 fun x77 => ldI w6 (.add ⟨B1, 0, none⟩ 3) .i64 fun x78 => stW w6 ⟨B5, 0, none⟩ (.int .i64 x75) fun w79 => stW w79 (.add ⟨B5, 0, none⟩ 1) (.int .i64 x76) fun w80 => stW w80 (.add ⟨B5, 0, none⟩ 2) (.int .i64 x77) fun w81 => stW w81 (.add ⟨B5, 0, none⟩ 3) (.int .i64 x78) fun w82 => ldI w82 ⟨B5, 0, none⟩ .i64 fun x83 => ldI w82 (.add ⟨B5, 0, none⟩ 1) .i64 fun x84 => ldI w82 (.add ⟨B5, 0, none⟩ 2) .i64 fun x85 => ldI w82 (.add ⟨B5, 0, none⟩ 3) .i64 fun x86 => Q (.returned (.agg #[.int .i64 x83, .int .i64 x84, .int .i64 x85, .int .i64 x86])) w82))
def D : Nat → Option DH := dtab []
def tb : List (List Nat × Spec) := []
variable (xa0_0 xa0_1 xa0_2 xa0_3 xa1_0 xa1_1 xa1_2 xa1_3 : Int) (w : World) (Q : Ending → World → Prop)
theorem wp_eq : wp xa0_0 xa0_1 xa0_2 xa0_3 xa1_0 xa1_1 xa1_2 xa1_3 w Q = codeW Try.prog hT 36 D (tab tb) [] body (topQ Try.prog hT 36 [.cell 4 33] Q) (argsF [.agg #[.int .i64 xa0_0, .int .i64 xa0_1, .int .i64 xa0_2, .int .i64 xa0_3], .agg #[.int .i64 xa1_0, .int .i64 xa1_1, .int .i64 xa1_2, .int .i64 xa1_3]]) w := by kernel_rfl
theorem ok (h : wp xa0_0 xa0_1 xa0_2 xa0_3 xa1_0 xa1_1 xa1_2 xa1_3 w Q) : Calls Try.prog 80 #[.agg #[.int .i64 xa0_0, .int .i64 xa0_1, .int .i64 xa0_2, .int .i64 xa0_3], .agg #[.int .i64 xa1_0, .int .i64 xa1_1, .int .i64 xa1_2, .int .i64 xa1_3]] w Q := by
 rw [wp_eq] at h
 refine calls_of_codeW (c := body) (rs := [.cell 4 33]) Try.func80 ?_ ?_ ?_ ?_ ?_ (tab_snd (by
  intro x hx
  simp only [tb, List.not_mem_nil] at hx
  )) ?_ h <;> kernel_rfl
end f_linkcut_greater
namespace f_linkcut_Forest_hang
noncomputable def body : Code := (Try.f81.body).getD .skip
def wp (aa0 : Addr) (xa1 xa2 xa3 : Int) (w : World) (Q : Ending → World → Prop) : Prop := ldS w aa0 fun A1 n1 c1 => optB A1 fun a2 => req (decide (0 ≤ xa1 ∧ xa1 < (n1 : Int))) <| req (decide (0 ≤ xa3 ∧ xa3 < ((2 : Nat) : Int))) <| stW w ((a2.add (xa1.toNat * 13)).add (xa3.toNat * 1)) (.int .i64 xa2) fun w3 => sel (decide (xa2 > 0)) (ldS w3 aa0 fun A4 n4 c4 => optB A4 fun a5 => req (decide (0 ≤ xa2 ∧ xa2 < (n4 : Int))) <| stW w3 ((a5.add (xa2.toNat * 13)).add 2) (.int .i64 xa1) fun w6 => Q (.returned (.tuple #[])) w6) (Q (.returned (.tuple #[])) w3)
def D : Nat → Option DH := dtab []
def tb : List (List Nat × Spec) := []
variable (aa0 : Addr) (xa1 xa2 xa3 : Int) (w : World) (Q : Ending → World → Prop)
theorem wp_eq : wp aa0 xa1 xa2 xa3 w Q = codeW Try.prog hT 28 D (tab tb) [] body (topQ Try.prog hT 28 [] Q) (argsF [.pointer (some aa0), .int .i64 xa1, .int .i64 xa2, .int .i64 xa3]) w := by kernel_rfl
theorem ok (h : wp aa0 xa1 xa2 xa3 w Q) : Calls Try.prog 81 #[.pointer (some aa0), .int .i64 xa1, .int .i64 xa2, .int .i64 xa3] w Q := by
 rw [wp_eq] at h
 refine calls_of_codeW (c := body) (rs := []) Try.func81 ?_ ?_ ?_ ?_ ?_ (tab_snd (by
  intro x hx
  simp only [tb, List.not_mem_nil] at hx
  )) ?_ h <;> kernel_rfl
end f_linkcut_Forest_hang
end Go.Proofs.Ytklnlnjgaadjbaa.Rd
