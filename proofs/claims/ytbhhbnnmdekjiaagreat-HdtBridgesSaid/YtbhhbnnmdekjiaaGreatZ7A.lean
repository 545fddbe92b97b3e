/- A predicate-transformer reading of the model's code ('codeW'), proved sound against 'Code.wp': what a function's code comes to is reckoned by the kernel; conditions: none · What the types of the translation lead one to await of a cell or a result: a table; nothing is proved of it · The printed readings of some functions: each function's code reckoned by the kernel to its predicate transformer -/
import Derived.Calls
import Derived.Tactics
import Derived.Scope
import Derived.Laws.World
import Derived.OrdersHeld
import Derived.KernelRfl
import Derived.Test.YtbhhbnnmdekjiaaGreatProg
set_option linter.unusedSimpArgs false
set_option linter.unusedVariables false
namespace Go.Dn
abbrev Fr := Nat → Value
def up (σ : Fr) (d : Nat) (v : Value) : Fr := fun t => bif Nat.beq t d then v else σ t
def putO (σ : Fr) : Option Tmp → Value → Fr
  | some d, v => up σ d v
  | none, _ => σ
def ev (n : Nat) (σ : Fr) : Operand → Value
  | .tmp t => bif Nat.blt t n then σ t else undef
  | .const v => v
  | .global g => .pointer (some ⟨g, 0, none⟩)
  | .func f => .func (.func f) #[] #[]
def act (ds : List Deferred) (n : Nat) (σ : Fr) : Act := { tmps := Array.ofFn (n := n) fun i => σ i.val, defers := ds }
variable {ds : List Deferred}
def argsF (l : List Value) : Fr := fun t => l.getD t undef
theorem nbeq_false {a b : Nat} (h : ¬ a = b) : Nat.beq a b = false := by
  cases hb : Nat.beq a b with
  | false => rfl
  | true => exact absurd (Nat.eq_of_beq_eq_true hb) h
theorem up_self {σ : Fr} {d : Nat} {v : Value} (h : σ d = v) : up σ d v = σ := by
  funext t
  unfold up
  by_cases e : t = d
  · subst e; simp [h]
  · have : Nat.beq t d = false := nbeq_false e
    simp [this]
theorem act_get (n : Nat) (σ : Fr) (t : Nat) : (act ds n σ).tmps[t]? = if t < n then some (σ t) else none := by
  unfold act
  by_cases h : t < n
  · simp [h]
  · simp [h]
theorem act_eval (n : Nat) (σ : Fr) : (act ds n σ).eval = ev n σ := by
  funext x
  cases x with
  | tmp t =>
    show (act ds n σ).tmps.getD t undef = _
    rw [Array.getD_eq_getD_getElem?, act_get]
    simp only [ev]
    by_cases h : t < n
    · have : Nat.blt t n = true := by simpa [Nat.blt_eq] using h
      simp [h, this]
    · have : Nat.blt t n = false := by
        cases hb : Nat.blt t n with
        | false => rfl
        | true => exact absurd (Nat.blt_eq.mp hb) h
      simp [h, this]
  | const v => rfl
  | global g => rfl
  | func f => rfl
theorem act_put (n : Nat) (σ : Fr) (d : Option Tmp) (v : Value) : (act ds n σ).put d v = act ds n (putO σ d v) := by
  cases d with
  | none => rfl
  | some d =>
    show Act.mk ((Array.ofFn (n := n) fun i => σ i.val).setIfInBounds d v) ds = Act.mk (Array.ofFn (n := n) fun i => up σ d v i.val) ds
    congr 1
    apply Array.ext
    · simp
    · intro i h1 h2
      simp only [Array.size_setIfInBounds, Array.size_ofFn] at h1
      rw [Array.getElem_setIfInBounds (by simpa using h1)]
      simp only [Array.getElem_ofFn, up]
      by_cases e : d = i
      · subst e; simp
      · have : Nat.beq i d = false := nbeq_false (fun h => e h.symm)
        simp [e, this]
def sel (b : Bool) (A B : Prop) : Prop := match b with | true => A | false => B
def req (b : Bool) (A : Prop) : Prop := match b with | true => A | false => False
def optB {α : Type} (x : Option α) (f : α → Prop) : Prop := match x with | some a => f a | none => False
theorem sel_t {b : Bool} {A B : Prop} (h : b = true) (h1 : A) : sel b A B := by subst h; exact h1
theorem sel_f {b : Bool} {A B : Prop} (h : b = false) (h1 : B) : sel b A B := by subst h; exact h1
theorem req_intro {b : Bool} {A : Prop} (h : b = true) (h1 : A) : req b A := by subst h; exact h1
theorem req_elim {b : Bool} {A : Prop} (h : req b A) : b = true ∧ A := by
  cases b
  · exact h.elim
  · exact ⟨rfl, h⟩
theorem optB_some {α : Type} {x : Option α} {f : α → Prop} {a : α} (h : x = some a) (h1 : f a) : optB x f := by subst h; exact h1
theorem optB_elim {α : Type} {x : Option α} {f : α → Prop} (h : optB x f) : ∃ a, x = some a ∧ f a := by
  cases x with
  | none => exact h.elim
  | some a => exact ⟨a, rfl, h⟩
inductive Sh where
  | int (k : IntKind) | bool | str | ptr | slice | map | flt (k : FloatKind) | cpx (k : FloatKind) | any | arr
inductive Sh1 where
  | sc (s : Sh) | agg (l : List Sh)
inductive RetH where
  | one (s : Sh1) | tup (l : List Sh1) | nxt
def bindSh : Sh → (Value → Prop) → Prop
  | .int k, K => ∃ x : Int, K (.int k x)
  | .bool, K => ∃ x : Bool, K (.bool x)
  | .str, K => ∃ x : ByteArray, K (.string x)
  | .ptr, K => ∃ x : Option Addr, K (.pointer x)
  | .slice, K => ∃ (A : Option Addr) (n c : Nat), K (.slice A n c)
  | .map, K => ∃ x : Option Nat, K (.map x)
  | .flt k, K => ∃ x : Nat, K (.float k x)
  | .cpx k, K => ∃ (x y : Nat), K (.complex k x y)
  | .any, K => ∃ v : Value, K v
  | .arr, K => ∃ cs : Array Value, K (.agg cs)
theorem bindSh_elim {s : Sh} {K : Value → Prop} (h : bindSh s K) : ∃ v, K v := by
  cases s <;> simp only [bindSh] at h
  case slice => obtain ⟨A, n, c, h⟩ := h; exact ⟨_, h⟩
  case cpx => obtain ⟨x, y, h⟩ := h; exact ⟨_, h⟩
  all_goals (obtain ⟨x, h⟩ := h; exact ⟨_, h⟩)
def bindShs : List Sh → (List Value → Prop) → Prop
  | [], K => K []
  | s :: l, K => bindSh s fun v => bindShs l fun vs => K (v :: vs)
theorem bindShs_elim : ∀ {l : List Sh} {K : List Value → Prop}, bindShs l K → ∃ vs, K vs
  | [], _, h => ⟨[], h⟩
  | _ :: _, _, h => by
    obtain ⟨v, h⟩ := bindSh_elim h
    obtain ⟨vs, h⟩ := bindShs_elim h
    exact ⟨v :: vs, h⟩
def bindSh1 : Sh1 → (Value → Prop) → Prop
  | .sc s, K => bindSh s K
  | .agg l, K => bindShs l fun vs => K (.agg ⟨vs⟩)
theorem bindSh1_elim {s : Sh1} {K : Value → Prop} (h : bindSh1 s K) : ∃ v, K v := by
  cases s with
  | sc s => exact bindSh_elim h
  | agg l => obtain ⟨vs, h⟩ := bindShs_elim h; exact ⟨_, h⟩
def bindSh1s : List Sh1 → (List Value → Prop) → Prop
  | [], K => K []
  | s :: l, K => bindSh1 s fun v => bindSh1s l fun vs => K (v :: vs)
theorem bindSh1s_elim : ∀ {l : List Sh1} {K : List Value → Prop}, bindSh1s l K → ∃ vs, K vs
  | [], _, h => ⟨[], h⟩
  | _ :: _, _, h => by
    obtain ⟨v, h⟩ := bindSh1_elim h
    obtain ⟨vs, h⟩ := bindSh1s_elim h
    exact ⟨v :: vs, h⟩
def bindRet : RetH → (Value → Prop) → Prop
  | .one s, K => bindSh1 s K
  | .tup l, K => bindSh1s l fun vs => K (.tuple ⟨vs⟩)
  | .nxt, K => ∃ (b : Bool) (r : List Value), K (.tuple ⟨.bool b :: r⟩)
theorem bindRet_elim {s : RetH} {K : Value → Prop} (h : bindRet s K) : ∃ v, K v := by
  cases s with
  | one s => exact bindSh1_elim h
  | tup l => obtain ⟨vs, h⟩ := bindSh1s_elim h; exact ⟨_, h⟩
  | nxt => obtain ⟨b, r, h⟩ := h; exact ⟨_, h⟩
def RetH.loads : RetH → List Sh
  | .one (.sc s) => [s]
  | .one (.agg l) => l
  | .tup _ => []
  | .nxt => []
def Wr (w : World) (a : Addr) : Prop := (∃ v0, w.cell? a = some v0) ∧ w.frozen? a = false
def sc (v : Value) (X : Prop) : Prop := match v with | .agg _ => False | .tuple _ => False | _ => X
def notCells : Obj → Prop := fun o => match o with | .cells .. => False | _ => True
def wpS (P : Program) {α : Type} : Sem α → List Sh → (α → World → Prop) → World → Prop
  | .pure a, _, K, w => K a w
  | .load _ a k, hs, K, w => bindSh (hs.headD .any) fun v => w.cell? a = some v ∧ wpS P (k v) hs.tail K w
  | .store _ a v k, hs, K, w => Wr w a ∧ sc v (wpS P k hs K (w.setCell a v))
  | .new o k, hs, K, w => wpS P (k w.heap.size) hs K (w.alloc o)
  | .shape r k, hs, K, w => wpS P (k (w.shape? r)) hs K w
  | .freeze a n k, hs, K, w => wpS P k hs K (w.freeze a n)
  | .frozen a k, hs, K, w => wpS P (k (w.frozen? a)) hs K w
  | .getObj r k, hs, K, w => ∃ o, w.heap[r]? = some o ∧ notCells o ∧ wpS P (k o) hs K w
  | .setObj r o k, hs, K, w => (∃ o', w.heap[r]? = some o' ∧ notCells o') ∧ wpS P k hs K { w with heap := w.heap.setIfInBounds r o }
  | .choose q k, hs, K, w => match q.forced with
    | true => wpS P (k 0) hs K w
    | false => ∀ t, wpS P (k (q.cut t)) hs K w.drew
  | .sys _ _, _, _, _ => False
  | .program k, hs, K, w => wpS P (k P) hs K w
  | .mark _ k, hs, K, w => wpS P k hs K w
  | .halt _, _, _, _ => False
theorem wpS_run (P : Program) {α : Type} (s : Sem α) : ∀ (hs : List Sh) (K : α → World → Prop) (w : World), wpS P s hs K w →
    ∃ a w', s.run P w = .ok a w' ∧ K a w' := by
  induction s with
  | pure a => intro hs K w h; exact ⟨a, w, rfl, h⟩
  | load m a k ih =>
    intro hs K w h
    obtain ⟨v, hc, h⟩ := bindSh_elim h
    obtain ⟨x, w', hr, hk⟩ := ih v _ _ _ h
    exact ⟨x, w', by simp only [Sem.run, hc]; exact hr, hk⟩
  | store m a v k ih =>
    intro hs K w h
    obtain ⟨⟨⟨v0, hc⟩, hf⟩, h⟩ := h
    cases v <;> simp only [sc] at h
    all_goals
      obtain ⟨x, w', hr, hk⟩ := ih _ _ _ h
      exact ⟨x, w', by simp only [Sem.run, hc, hf, Bool.false_eq_true, if_false]; exact hr, hk⟩
  | new o k ih => intro hs K w h; exact ih _ _ _ _ h
  | shape r k ih => intro hs K w h; exact ih _ _ _ _ h
  | freeze a n k ih => intro hs K w h; exact ih _ _ _ h
  | frozen a k ih => intro hs K w h; exact ih _ _ _ _ h
  | getObj r k ih =>
    intro hs K w h
    obtain ⟨o, ho, hn, h⟩ := h
    obtain ⟨x, w', hr, hk⟩ := ih o _ _ _ h
    refine ⟨x, w', ?_, hk⟩
    cases o <;> simp only [notCells] at hn <;> simp only [Sem.run, ho] <;> exact hr
  | setObj r o k ih =>
    intro hs K w h
    obtain ⟨⟨o', ho, hn⟩, h⟩ := h
    obtain ⟨x, w', hr, hk⟩ := ih _ _ _ h
    refine ⟨x, w', ?_, hk⟩
    cases o' <;> simp only [notCells] at hn <;> simp only [Sem.run, ho] <;> exact hr
  | choose q k ih =>
    intro hs K w h
    unfold wpS at h
    cases hq : q.forced with
    | true =>
      simp only [hq] at h
      obtain ⟨x, w', hr, hk⟩ := ih _ _ _ _ h
      exact ⟨x, w', by simp only [Sem.run, hq, if_true]; exact hr, hk⟩
    | false =>
      simp only [hq] at h
      obtain ⟨x, w', hr, hk⟩ := ih _ _ _ _ (h (w.tape w.drawn q))
      exact ⟨x, w', by simp only [Sem.run, hq, Bool.false_eq_true, if_false]; exact hr, hk⟩
  | sys c k ih => intro hs K w h; exact h.elim
  | program k ih => intro hs K w h; exact ih _ _ _ _ h
  | mark m k ih => intro hs K w h; exact ih _ _ _ h
  | halt x => intro hs K w h; exact h.elim
def Runs (P : Program) {α : Type} (s : Sem α) (w : World) (K : α → World → Prop) : Prop := ∃ a w', s.run P w = .ok a w' ∧ K a w'
abbrev Hint := TypeId → RetH
def retOf (hT : Hint) (op : Op) (ty : TypeId) (dst : Option Tmp) : RetH := match op with
  | .range _ _ => .one (.sc .ptr)
  | .next _ false => .nxt
  | .entry _ => hT (1000000 + dst.getD 0)
  | _ => hT ty
def opK (P : Program) (hT : Hint) (o : Oper) (σ : Fr) (K : Fr → World → Prop) : Next → World → Prop
  | .value v, w => K (putO σ o.dst v) w
  | .skip, w => K (putO σ o.dst undef) w
  | .enter f args, w => Calls P f args w fun e w' => bindRet (hT o.type) fun v => e = .returned v ∧ K (putO σ o.dst v) w'
  | _, _ => False
theorem opK_sound {P : Program} {hT : Hint} {n : Nat} {o : Oper} {σ : Fr} {K : Fr → World → Prop} {next : Act → World → Prop} {Q : Exit → Act → World → Prop}
    {w : World} {x : Next} {w' : World} (hK : ∀ σ' w', K σ' w' → next (act ds n σ') w') (hr : (execOp (ev n σ) o).run P w = .ok x w') (h : opK P hT o σ K x w') :
    o.wp P (act ds n σ) w next Q := by
  unfold Oper.wp
  rw [act_eval, hr]
  cases x <;> simp only [opK] at h
  case value v => simp only [Oper.upon]; rw [act_put]; exact hK _ _ h
  case skip => simp only [Oper.upon]; rw [act_put]; exact hK _ _ h
  case enter f args =>
    simp only [Oper.upon]
    refine h.mono ?_
    intro e w'' he
    obtain ⟨v, rfl, hk⟩ := bindRet_elim he
    show next ((act ds n σ).put o.dst v) w''
    rw [act_put]; exact hK _ _ hk
theorem run_bind (P : Program) {α β : Type} (s : Sem α) (f : α → Sem β) : ∀ w, (s >>= f).run P w = match s.run P w with
    | .ok a w' => (f a).run P w'
    | .halt h w' => .halt h w' := by
  show ∀ w, (s.bind f).run P w = _
  induction s with
  | pure a => intro w; rfl
  | load m a k ih =>
    intro w
    simp only [Sem.bind, Sem.run]
    split
    · exact ih _ _
    · split
      · exact ih _ _
      · rfl
  | store m a v k ih =>
    intro w
    cases v <;> simp only [Sem.bind, Sem.run]
    all_goals
      split
      · split
        · rfl
        · exact ih _
      · split
        · exact ih _
        · rfl
  | new o k ih => intro w; exact ih _ _
  | shape r k ih => intro w; exact ih _ _
  | freeze a n k ih => intro w; exact ih _
  | frozen a k ih => intro w; exact ih _ _
  | getObj r k ih =>
    intro w
    simp only [Sem.bind, Sem.run]
    split
    · rfl
    · exact ih _ _
    · rfl
  | setObj r o k ih =>
    intro w
    simp only [Sem.bind, Sem.run]
    split
    · rfl
    · exact ih _
    · rfl
  | choose q k ih =>
    intro w
    simp only [Sem.bind, Sem.run]
    split
    · exact ih _ _
    · exact ih _ _
  | sys c k ih => intro w; exact ih _ _
  | program k ih => intro w; exact ih _ _
  | mark m k ih => intro w; exact ih _
  | halt x => intro w; rfl
def Gives (P : Program) (s : Sem Value) (v : Value) : Prop := ∀ w, s.run P w = .ok v w
theorem Gives.next {P : Program} {s : Sem Value} {v : Value} (h : Gives P s v) (w : World) :
    (do pure (Next.value (← s)) : Sem Next).run P w = .ok (.value v) w := by
  rw [run_bind, h w]; rfl
def nilW (v : Value) (K : Value → Prop) : Prop := match v with
  | .pointer p => optB p fun a => K (.pointer (some a))
  | .func (.func f) x y => K (.func (.func f) x y)
  | .iface t v => K (.iface t v)
  | _ => False
def pickV (t : Bool) (a b : Value) : Value := match a, b with
  | .int k x, .int k' y => if k = k' then .int k (bif t then x else y) else (bif t then a else b)
  | .bool x, .bool y => .bool (bif t then x else y)
  | .string x, .string y => .string (bif t then x else y)
  | _, _ => bif t then a else b
theorem pickV_eq (t : Bool) (a b : Value) : pickV t a b = if t then a else b := by
  cases t <;> (unfold pickV; split <;> (try split) <;> simp_all)
def slA (A : Option Addr) (l m sz : Nat) : Option Addr := if m = l then A else A.map (·.add (l * sz))
def slB (a : Addr) (l m sz : Nat) : Addr := if m = l then a else a.add (l * sz)
def bnd (v : Value) (y : Nat) (K : Nat → Prop) : Prop := match v with
  | .int _ i => req (decide (0 ≤ i ∧ i ≤ (y : Int))) (K i.toNat)
  | _ => False
def bnds (len cap : Nat) (lo hi mx : Option Value) (K : Nat → Nat → Nat → Prop) : Prop := match mx with
  | some v => bnd v cap fun m => match hi with
    | some v => bnd v m fun h => match lo with
      | some v => bnd v h fun l => K l h m
      | none => K 0 h m
    | none => False
  | none => match hi with
    | some v => bnd v cap fun h => match lo with
      | some v => bnd v h fun l => K l h cap
      | none => K 0 h cap
    | none => match lo with
      | some v => bnd v len fun l => K l len cap
      | none => K 0 len cap
def szOf (P : Program) (t : TypeId) (K : Nat → Prop) : Prop := match P.info? t with | some i => K i.size | none => False
def flatT (P : Program) (t : TypeId) : Bool := match P.underlying t with
  | some (.struct fs) => fs.toList.all fun f => !(f.name == "_") && (match P.underlying f.type with | some (.int _) => true | some .bool => true | some .string => true | _ => false)
  | some (.array n e) => Nat.ble n 64 && (match P.underlying e with | some (.int _) => true | some .bool => true | some .string => true | _ => false)
  | _ => false
def isSp (P : Program) : Op → Bool
  | .nilCheck _ | .pick _ _ _ | .indexAddr .. | .index .. | .slice .. | .sliceToArrayPointer .. => true
  | .binOp .quo .. | .binOp .rem .. => true
  | .binOp .shl _ _ (.const _) _ | .binOp .shr _ _ (.const _) _ => false
  | .binOp .shl .. | .binOp .shr .. => true
  | .binOp .eql _ _ (.const (.pointer none)) _ | .binOp .neq _ _ (.const (.pointer none)) _ => true
  | .binOp .eql _ _ (.const (.slice none 0 0)) _ | .binOp .neq _ _ (.const (.slice none 0 0)) _ => true
  | .binOp .eql _ _ (.const (.map none)) _ | .binOp .neq _ _ (.const (.map none)) _ => true
  | .binOp .eql t _ _ _ => flatT P t
  | .binOp .neq t _ _ _ => flatT P t
  | _ => false
def idxAddrW (P : Program) (t : TypeId) (x ix : Value) (K : Value → Prop) : Prop := match ix with
  | .int _ i => match P.underlying t, x with
    | some (.slice e), .slice A len _ => szOf P e fun z => optB A fun a => req (decide (0 ≤ i ∧ i < (len : Int))) (K (.pointer (some (a.add (i.toNat * z)))))
    | some (.array len e), .pointer (some a) => szOf P e fun z => req (decide (0 ≤ i ∧ i < (len : Int))) (K (.pointer (some (a.add (i.toNat * z)))))
    | _, _ => False
  | _ => False
def idxW (P : Program) (t : TypeId) (x ix : Value) (K : Value → Prop) : Prop := match ix with
  | .int _ i => match P.underlying t, x with
    | some .string, .string s => req (decide (0 ≤ i ∧ i < (s.size : Int))) (K (.int .u8 (s.get! i.toNat).toNat))
    | some (.array len e), .agg cs => match P.underlying e, P.info? e with
      | some (.struct _), _ => False
      | some (.array _ _), _ => False
      | some (.int k), some inf => req (inf.size == 1 && decide (0 ≤ i ∧ i < (len : Int))) (optB (cs[i.toNat]?) fun v => match v with | .int k' x => req (decide (k' = k)) (K (.int k x)) | _ => False)
      | some _, some inf => req (inf.size == 1 && decide (0 ≤ i ∧ i < (len : Int))) (optB (cs[i.toNat]?) K)
      | _, _ => False
    | _, _ => False
  | _ => False
def sliceW (P : Program) (t : TypeId) (x : Value) (lo hi mx : Option Value) (K : Value → Prop) : Prop := match P.underlying t, x with
  | some (.slice e), .slice A len cap => szOf P e fun z => bnds len cap lo hi mx fun l h m => K (.slice (slA A l m z) (h - l) (m - l))
  | some .string, .string s => match mx with
    | none => bnds s.size s.size lo hi none fun l h _ => K (.string (s.extract l h))
    | some _ => False
  | some (.array n e), .pointer (some a) => szOf P e fun z => bnds n n lo hi mx fun l h m => K (.slice (some (slB a l m z)) (h - l) (m - l))
  | _, _ => False
def divW (op : BinOp) (x y : Value) (K : Value → Prop) : Prop := match x, y with
  | .int k a, .int k' b => match op with
    | .quo => req (decide (k = k') && !decide (b = 0)) (K (.int k (k.wrap (a.tdiv b))))
    | .rem => req (decide (k = k') && !decide (b = 0)) (K (.int k (a.tmod b)))
    | _ => False
  | _, _ => False
def shW (op : BinOp) (x y : Value) (K : Value → Prop) : Prop := match x, y with
  | .int k a, .int _ b => match op with
    | .shl => req (!decide (b < 0)) (K (.int k (k.wrap (a * 2 ^ (min b.toNat k.bits)))))
    | .shr => req (!decide (b < 0)) (K (.int k (a.fdiv (2 ^ (min b.toNat k.bits)))))
    | _ => False
  | _, _ => False
def arrPtrW (P : Program) (arr : TypeId) (x : Value) (K : Value → Prop) : Prop := match P.underlying arr, x with
  | some (.array n _), .slice A len _ => req (decide (n ≤ len)) (optB A fun a => K (.pointer (some a)))
  | _, _ => False
def kindOk (P : Program) (t : TypeId) (v : Value) : Bool := match P.underlying t, v with
  | some (.int _), .int _ _ => true
  | some .bool, .bool _ => true
  | some .string, .string _ => true
  | _, _ => false
def eqCell (v u : Value) : Option Bool := match v, u with
  | .int k a, .int k' b => (match decide (k = k') with | true => some (a == b) | false => none)
  | .bool a, .bool b => some (a == b)
  | .string a, .string b => some (a == b)
  | _, _ => none
def eqFs (P : Program) (xs ys : Array Value) : List Field → Option Bool
  | [] => some true
  | f :: r => match f.name == "_" with
    | true => none
    | false => match xs[f.offset]?, ys[f.offset]? with
      | some a, some b => match kindOk P f.type a with
        | true => match eqCell a b, eqFs P xs ys r with
          | some c, some d => some (c && d)
          | _, _ => none
        | false => none
      | _, _ => none
def eqArr (P : Program) (e : TypeId) (xs ys : Array Value) : Nat → Nat → Option Bool
  | 0, _ => some true
  | k + 1, i => match xs[i]?, ys[i]? with
    | some a, some b => match kindOk P e a with
      | true => match eqCell a b, eqArr P e xs ys k (i + 1) with
        | some c, some d => some (c && d)
        | _, _ => none
      | false => none
    | _, _ => none
def eqAgg (P : Program) (t : TypeId) (v u : Value) : Option Bool := match P.underlying t, v, u with
  | some (.struct fs), .agg xs, .agg ys => match P.stoodInHeld t, P.eqGuardType P.depth t with
    | false, false => eqFs P xs ys fs.toList
    | _, _ => none
  | some (.array n e), .agg xs, .agg ys => match P.eqGuardType P.depth t, P.info? e with
    | false, some i => match Nat.beq i.size 1 with
      | true => eqArr P e xs ys n 0
      | false => none
    | _, _ => none
  | _, _, _ => none
def spW (P : Program) (n : Nat) (σ : Fr) (op : Op) (K : Value → Prop) : Prop := match op with
  | .nilCheck x => nilW (ev n σ x) K
  | .pick c a b => match ev n σ c with | .bool t => K (pickV t (ev n σ a) (ev n σ b)) | _ => False
  | .indexAddr t x ix => idxAddrW P t (ev n σ x) (ev n σ ix) K
  | .index t x ix => idxW P t (ev n σ x) (ev n σ ix) K
  | .slice t x lo hi mx => sliceW P t (ev n σ x) (lo.map (ev n σ)) (hi.map (ev n σ)) (mx.map (ev n σ)) K
  | .sliceToArrayPointer arr x => arrPtrW P arr (ev n σ x) K
  | .binOp .quo _ x y _ => divW .quo (ev n σ x) (ev n σ y) K
  | .binOp .rem _ x y _ => divW .rem (ev n σ x) (ev n σ y) K
  | .binOp .shl _ x y _ => shW .shl (ev n σ x) (ev n σ y) K
  | .binOp .shr _ x y _ => shW .shr (ev n σ x) (ev n σ y) K
  | .binOp .eql t x (.const (.pointer none)) _ => match P.underlying t, ev n σ x with | some (.pointer _), .pointer p => K (.bool p.isNone) | _, _ => False
  | .binOp .neq t x (.const (.pointer none)) _ => match P.underlying t, ev n σ x with | some (.pointer _), .pointer p => K (.bool !p.isNone) | _, _ => False
  | .binOp .eql t x (.const (.slice none 0 0)) _ => match P.underlying t, ev n σ x with | some (.slice _), .slice A _ _ => K (.bool A.isNone) | _, _ => False
  | .binOp .neq t x (.const (.slice none 0 0)) _ => match P.underlying t, ev n σ x with | some (.slice _), .slice A _ _ => K (.bool !A.isNone) | _, _ => False
  | .binOp .eql t x (.const (.map none)) _ => match P.underlying t, ev n σ x with | some (.map _ _), .map A => K (.bool A.isNone) | _, _ => False
  | .binOp .neq t x (.const (.map none)) _ => match P.underlying t, ev n σ x with | some (.map _ _), .map A => K (.bool !A.isNone) | _, _ => False
  | .binOp .eql t x y _ => match eqAgg P t (ev n σ x) (ev n σ y) with | some b => K (.bool b) | none => False
  | .binOp .neq t x y _ => match eqAgg P t (ev n σ x) (ev n σ y) with | some b => K (.bool !b) | none => False
  | _ => False
theorem underlying_gives {P : Program} {t : TypeId} {d : TypeDesc} (h : P.underlying t = some d) (w : World) : (underlying t).run P w = .ok d w := by
  unfold underlying program
  rw [run_bind]; simp only [Sem.run, h]; rfl
theorem sizeOf_gives {P : Program} {t : TypeId} {i : TypeInfo} (h : P.info? t = some i) (w : World) : (sizeOf t).run P w = .ok i.size w := by
  unfold sizeOf typeInfo program
  rw [run_bind, run_bind]; simp only [Sem.run, h]; rfl
theorem goes {P : Program} {α β : Type} {s : Sem α} {f : α → Sem β} {a : α} {w w' : World} (h : s.run P w = .ok a w') : (s >>= f).run P w = (f a).run P w' := by
  rw [run_bind, h]
theorem nilW_sound {P : Program} {v : Value} {K : Value → Prop} (h : nilW v K) : ∃ v', (∀ w, Sem.run P (match v with
    | .pointer none | .nilIface | .nilFunc => (runtimePanic .nilDeref : Sem Next)
    | .func (.method name) first captured =>
      match (first[0]? : Option Value) with
      | some .nilIface => runtimePanic .nilDeref
      | some (.iface t w) => do
        if (← nilAhead ((← program).types.size + Made.depth) t w name) != some false then
          unsupported (.noEntry "op/nilCheck.the method's receiver behind this interface value is a nil pointer, or cannot be seen to be none, and the arguments act or may panic (ledger 612)")
        pure (.value (.func (.method name) first captured))
      | _ => pure (.value (.func (.method name) first captured))
    | x => pure (.value x)) w = .ok (.value v') w) ∧ K v' := by
  cases v <;> simp only [nilW] at h
  case pointer p =>
    obtain ⟨a, rfl, h⟩ := optB_elim h
    exact ⟨_, fun w => rfl, h⟩
  case iface t v => exact ⟨_, fun w => rfl, h⟩
  case func f x y =>
    cases f <;> simp only at h
    exact ⟨_, fun w => rfl, h⟩
theorem idxAddr_sound {P : Program} {t : TypeId} {x ix : Value} {K : Value → Prop} (h : idxAddrW P t x ix K) : ∃ v, Gives P (Instr.indexAt t x ix) v ∧ K v := by
  unfold idxAddrW at h
  split at h
  · rename_i k i
    split at h
    · rename_i e A len cap hu
      unfold szOf at h
      split at h
      · rename_i inf hi
        obtain ⟨a, rfl, h⟩ := optB_elim h
        obtain ⟨hb, h⟩ := req_elim h
        refine ⟨_, fun w => ?_, h⟩
        have hb' := of_decide_eq_true hb
        unfold Instr.indexAt
        simp only [asIntOf, pure_bind]
        rw [goes (underlying_gives hu w)]
        rw [goes (underlying_gives hu w)]
        simp only [hb', and_self, if_true]
        rw [goes (sizeOf_gives hi w)]; rfl
      · exact h.elim
    · rename_i len e a hu
      unfold szOf at h
      split at h
      · rename_i inf hi
        obtain ⟨hb, h⟩ := req_elim h
        refine ⟨_, fun w => ?_, h⟩
        have hb' := of_decide_eq_true hb
        unfold Instr.indexAt
        simp only [asIntOf, pure_bind]
        rw [goes (underlying_gives hu w)]
        simp only [Instr.sureAddr, pure_bind]
        rw [goes (underlying_gives hu w)]
        simp only [hb', and_self, if_true]
        rw [goes (sizeOf_gives hi w)]; rfl
      · exact h.elim
    · exact h.elim
  · exact h.elim
theorem idx_sound {P : Program} {t : TypeId} {x ix : Value} {K : Value → Prop} (h : idxW P t x ix K) : ∃ v, Gives P (Instr.index t x ix) v ∧ K v := by
  unfold idxW at h
  split at h
  · rename_i k i
    split at h
    · rename_i s hu
      obtain ⟨hb, h⟩ := req_elim h
      refine ⟨_, fun w => ?_, h⟩
      have hb' := of_decide_eq_true hb
      unfold Instr.index
      simp only [asIntOf, pure_bind]
      rw [goes (underlying_gives hu w)]
      have hlt : i.toNat < s.size := by omega
      have : s[i.toNat]? = some s[i.toNat] := by simp [hlt]
      simp only [hb'.1, if_true, this]
      have e : s.get! i.toNat = s[i.toNat] := by
        simp [ByteArray.get!, hlt, ByteArray.getElem_eq_getElem_data, getElem!_pos]
      rw [e]; rfl
    · rename_i len e cs hu
      split at h
      · exact h.elim
      · exact h.elim
      · rename_i k0 inf hd hi
        obtain ⟨hb, h⟩ := req_elim h
        simp only [Bool.and_eq_true, beq_iff_eq, decide_eq_true_eq] at hb
        obtain ⟨v, hv, h⟩ := optB_elim h
        split at h
        · rename_i k' x
          obtain ⟨hk, h⟩ := req_elim h
          have hk' := of_decide_eq_true hk
          subst hk'
          refine ⟨_, fun w => ?_, h⟩
          unfold Instr.index
          simp only [asIntOf, pure_bind]
          rw [goes (underlying_gives hu w)]
          simp only [hb.2, and_self, if_true]
          rw [goes (sizeOf_gives hi w), hb.1, Nat.mul_one]
          unfold part isAgg
          rw [run_bind, goes (underlying_gives hd w)]
          simp only [pure, Sem.run, hv, Bool.false_eq_true, if_false]
        · exact h.elim
      · rename_i d inf hns hna hnk hd hi
        obtain ⟨hb, h⟩ := req_elim h
        simp only [Bool.and_eq_true, beq_iff_eq, decide_eq_true_eq] at hb
        obtain ⟨v, hv, h⟩ := optB_elim h
        refine ⟨v, fun w => ?_, h⟩
        unfold Instr.index
        simp only [asIntOf, pure_bind]
        rw [goes (underlying_gives hu w)]
        simp only [hb.2, and_self, if_true]
        rw [goes (sizeOf_gives hi w), hb.1, Nat.mul_one]
        unfold part isAgg
        rw [run_bind, goes (underlying_gives hd w)]
        cases d <;> first | exact absurd rfl (hns _) | exact absurd rfl (hna _ _) | (simp only [pure, Sem.run, hv, Bool.false_eq_true, if_false]; done)
      · exact h.elim
    · exact h.elim
  · exact h.elim
theorem bnd_sound {P : Program} {v : Value} {y : Nat} {K : Nat → Prop} (h : bnd v y K) : ∃ i, (∀ c w, (Instr.sliceBound v y c).run P w = .ok i w) ∧ K i := by
  unfold bnd at h
  split at h
  · rename_i k i
    obtain ⟨hb, h⟩ := req_elim h
    have hb' := of_decide_eq_true hb
    refine ⟨i.toNat, fun c w => ?_, h⟩
    unfold Instr.sliceBound
    simp only [asIntOf, pure_bind, hb', and_self, if_true]
    rfl
  · exact h.elim
theorem bnds_sound {P : Program} {b : Bool} {len cap : Nat} {lo hi mx : Option Value} {K : Nat → Nat → Nat → Prop} (h : bnds len cap lo hi mx K) :
    ∃ l hh m, (∀ w, (Instr.sliceBounds b len cap lo hi mx).run P w = .ok (l, hh, m) w) ∧ K l hh m := by
  unfold bnds at h
  cases mx with
  | some vm =>
    obtain ⟨m, hm, h⟩ := bnd_sound (P := P) h
    cases hi with
    | none => exact h.elim
    | some vh =>
      obtain ⟨hh, hhh, h⟩ := bnd_sound (P := P) h
      cases lo with
      | none =>
        refine ⟨_, _, _, fun w => ?_, h⟩
        unfold Instr.sliceBounds
        rw [goes (hm _ w), goes (hhh _ w)]; rfl
      | some vl =>
        obtain ⟨l, hl, h⟩ := bnd_sound (P := P) h
        refine ⟨_, _, _, fun w => ?_, h⟩
        unfold Instr.sliceBounds
        rw [goes (hm _ w), goes (hhh _ w), goes (hl _ w)]; rfl
  | none =>
    cases hi with
    | none =>
      cases lo with
      | none => exact ⟨_, _, _, fun w => rfl, h⟩
      | some vl =>
        obtain ⟨l, hl, h⟩ := bnd_sound (P := P) h
        refine ⟨_, _, _, fun w => ?_, h⟩
        unfold Instr.sliceBounds
        simp only [pure_bind]
        rw [goes (hl _ w)]; rfl
    | some vh =>
      obtain ⟨hh, hhh, h⟩ := bnd_sound (P := P) h
      cases lo with
      | none =>
        refine ⟨_, _, _, fun w => ?_, h⟩
        unfold Instr.sliceBounds
        simp only [pure_bind]
        rw [goes (hhh _ w)]; rfl
      | some vl =>
        obtain ⟨l, hl, h⟩ := bnd_sound (P := P) h
        refine ⟨_, _, _, fun w => ?_, h⟩
        unfold Instr.sliceBounds
        simp only [pure_bind]
        rw [goes (hhh _ w), goes (hl _ w)]; rfl
theorem szOf_elim {P : Program} {t : TypeId} {K : Nat → Prop} (h : szOf P t K) : ∃ i, P.info? t = some i ∧ K i.size := by
  unfold szOf at h
  split at h
  · rename_i i hi; exact ⟨i, hi, h⟩
  · exact h.elim
theorem slice_sound {P : Program} {t : TypeId} {x : Value} {lo hi mx : Option Value} {K : Value → Prop} (h : sliceW P t x lo hi mx K) : ∃ v, Gives P (Instr.sliceAt t x lo hi mx) v ∧ K v := by
  unfold sliceW at h
  split at h
  · rename_i e A len cap hu
    obtain ⟨inf, hi', h⟩ := szOf_elim h
    obtain ⟨l, hh, m, hr, h⟩ := bnds_sound (P := P) (b := true) h
    refine ⟨_, fun w => ?_, h⟩
    unfold Instr.sliceAt
    rw [goes (underlying_gives hu w)]
    show Sem.run P (Instr.slice t (.slice A len cap) lo hi mx) w = _
    unfold Instr.slice
    rw [goes (underlying_gives hu w)]
    show Sem.run P (Instr.sliceBounds true len cap lo hi mx >>= _) w = _
    rw [goes (hr w), goes (sizeOf_gives hi' w)]
    rfl
  · rename_i s hu
    cases mx with
    | some _ => exact h.elim
    | none =>
      obtain ⟨l, hh, m, hr, h⟩ := bnds_sound (P := P) (b := false) h
      refine ⟨_, fun w => ?_, h⟩
      unfold Instr.sliceAt
      rw [goes (underlying_gives hu w)]
      show Sem.run P (Instr.slice t (.string s) lo hi none) w = _
      unfold Instr.slice
      rw [goes (underlying_gives hu w)]
      show Sem.run P (Instr.sliceBounds false s.size s.size lo hi none >>= _) w = _
      rw [goes (hr w)]
      rfl
  · rename_i n e a hu
    obtain ⟨inf, hi', h⟩ := szOf_elim h
    obtain ⟨l, hh, m, hr, h⟩ := bnds_sound (P := P) (b := false) h
    refine ⟨_, fun w => ?_, h⟩
    unfold Instr.sliceAt
    rw [goes (underlying_gives hu w)]
    show Sem.run P (Instr.sliceBounds false n n lo hi mx >>= _) w = _
    rw [goes (hr w), goes (sizeOf_gives hi' w)]
    rfl
  · exact h.elim
theorem arrPtr_sound {P : Program} {t : TypeId} {x : Value} {K : Value → Prop} (h : arrPtrW P t x K) : ∃ v, Gives P (Instr.arrayAt t x) v ∧ K v := by
  unfold arrPtrW at h
  split at h
  · rename_i n e A len cap hu
    obtain ⟨hb, h⟩ := req_elim h
    obtain ⟨a, rfl, h⟩ := optB_elim h
    refine ⟨_, fun w => ?_, h⟩
    unfold Instr.arrayAt
    rw [goes (underlying_gives hu w)]
    have : ¬ len < n := by have := of_decide_eq_true hb; omega
    simp only [this, if_false]
    rfl
  · exact h.elim
theorem div_sound {P : Program} {op : BinOp} {t : TypeId} {x y : Operand} {a b : Value} {K : Value → Prop} (hop : op = .quo ∨ op = .rem) (h : divW op a b K) :
    ∃ v, Gives P (do eqGuard op t x y a b; binOp op t a b) v ∧ K v := by
  unfold divW at h
  split at h
  · rename_i k m k' n'
    rcases hop with rfl | rfl
    all_goals
      simp only at h
      obtain ⟨hb, h⟩ := req_elim h
      simp only [Bool.and_eq_true, decide_eq_true_eq, Bool.not_eq_true', decide_eq_false_iff_not] at hb
      refine ⟨_, fun w => ?_, h⟩
      obtain ⟨rfl, hn⟩ := hb
      simp [eqGuard, binOp, Op.intDiv, hn]
  · exact h.elim
theorem sh_sound {P : Program} {op : BinOp} {t : TypeId} {x y : Operand} {a b : Value} {K : Value → Prop} (hop : op = .shl ∨ op = .shr) (h : shW op a b K) :
    ∃ v, Gives P (do eqGuard op t x y a b; binOp op t a b) v ∧ K v := by
  unfold shW at h
  split at h
  · rename_i k m k' n'
    rcases hop with rfl | rfl
    all_goals
      simp only at h
      obtain ⟨hb, h⟩ := req_elim h
      simp only [Bool.not_eq_true', decide_eq_false_iff_not] at hb
      refine ⟨_, fun w => ?_, h⟩
      simp [eqGuard, binOp, Op.shift, hb]
  · exact h.elim
theorem eqNil_gives {P : Program} {t : TypeId} {x y : Operand} {v u : Value} {b : Bool} (hg : ∀ w, (eqGuard .eql t x y v u).run P w = .ok () w) (hg' : ∀ w, (eqGuard .neq t x y v u).run P w = .ok () w)
    (hb : ∀ w, (Op.equal t v u).run P w = .ok b w) (h1 : binOp .eql t v u = (do pure (.bool (← Op.equal t v u)))) (h2 : binOp .neq t v u = (do pure (.bool (!(← Op.equal t v u))))) :
    Gives P (do eqGuard .eql t x y v u; binOp .eql t v u) (.bool b) ∧ Gives P (do eqGuard .neq t x y v u; binOp .neq t v u) (.bool !b) := by
  refine ⟨fun w => ?_, fun w => ?_⟩
  · rw [goes (hg w), h1, goes (hb w)]; rfl
  · rw [goes (hg' w), h2, goes (hb w)]; rfl
theorem eqCell_gives {P : Program} {d : Nat} {t : TypeId} {v u : Value} {b : Bool} (hk : kindOk P t v = true) (h : eqCell v u = some b) (w : World) :
    (Op.equalIn (d + 1) t v u).run P w = .ok b w := by
  unfold kindOk at hk
  unfold Op.equalIn
  split at hk
  · rename_i hu
    rw [goes (underlying_gives hu w)]
    cases u <;> simp only [eqCell] at h
    all_goals (try cases h)
    split at h
    · rename_i e; have e' := of_decide_eq_true e; subst e'
      injection h with h; subst h
      simp [pure]
    · cases h
  · rename_i hu
    rw [goes (underlying_gives hu w)]
    cases u <;> simp only [eqCell] at h
    all_goals (first | (injection h with h; subst h; rfl) | cases h)
  · rename_i hu
    rw [goes (underlying_gives hu w)]
    cases u <;> simp only [eqCell] at h
    all_goals (first | (injection h with h; subst h; rfl) | cases h)
  · cases hk
theorem part_gives {P : Program} {t : TypeId} {xs : Array Value} {i : Nat} {a b : Value} (hk : kindOk P t b = true) (h : xs[i]? = some a) (w : World) : (part t xs i).run P w = .ok a w := by
  unfold kindOk at hk
  unfold part isAgg
  rw [run_bind]
  split at hk
  · rename_i hu; rw [goes (underlying_gives hu w)]; simp only [pure, Sem.run, h, Bool.false_eq_true, if_false]
  · rename_i hu; rw [goes (underlying_gives hu w)]; simp only [pure, Sem.run, h, Bool.false_eq_true, if_false]
  · rename_i hu; rw [goes (underlying_gives hu w)]; simp only [pure, Sem.run, h, Bool.false_eq_true, if_false]
  · cases hk
theorem eqFs_gives {P : Program} {d : Nat} {xs ys : Array Value} (w : World) : ∀ (fs : List Field) (b : Bool), eqFs P xs ys fs = some b →
    (forIn (m := Sem) fs ((none, ()) : Option Bool × Unit) fun f _ =>
              if f.name ≠ "_" then do
                if (!(← Op.equalIn (d + 1) f.type (← part f.type xs f.offset) (← part f.type ys f.offset))) = true then pure (ForInStep.done (some false, ()))
                  else pure (ForInStep.yield (none, ()))
              else pure (ForInStep.yield (none, ()))).run P w = .ok ((if b then none else some false), ()) w
  | [], b, h => by injection h with h; subst h; rfl
  | f :: r, b, h => by
    simp only [eqFs] at h
    split at h
    · cases h
    · rename_i hn
      have hn' : f.name ≠ "_" := by simpa using hn
      split at h
      · rename_i x y hx hy
        split at h
        · rename_i hk
          split at h
          · rename_i c e hc he
            injection h with h; subst h
            rw [List.forIn_cons]
            simp only [hn', ne_eq, not_false_eq_true, if_true]
            rw [run_bind, goes (part_gives hk hx w), goes (part_gives hk hy w), goes (eqCell_gives hk hc w)]
            cases c
            · rfl
            · exact eqFs_gives w r e he
          · cases h
        · cases h
      · cases h
theorem eqArr_gives {P : Program} {d : Nat} {e : TypeId} {xs ys : Array Value} (w : World) : ∀ (k i : Nat) (b : Bool), eqArr P e xs ys k i = some b →
    (forIn (m := Sem) (List.range' i k) ((none, ()) : Option Bool × Unit) fun i _ => do
                if (!(← Op.equalIn (d + 1) e (← part e xs (i * 1)) (← part e ys (i * 1)))) = true then pure (ForInStep.done (some false, ()))
                  else pure (ForInStep.yield (none, ()))).run P w = .ok ((if b then none else some false), ()) w
  | 0, i, b, h => by injection h with h; subst h; rfl
  | k + 1, i, b, h => by
    simp only [eqArr] at h
    split at h
    · rename_i x y hx hy
      split at h
      · rename_i hk
        split at h
        · rename_i c e' hc he
          injection h with h; subst h
          rw [List.range'_succ, List.forIn_cons]
          rw [run_bind, Nat.mul_one, goes (part_gives hk hx w), goes (part_gives hk hy w), goes (eqCell_gives hk hc w)]
          cases c
          · rfl
          · exact eqArr_gives w k (i + 1) e' he
        · cases h
      · cases h
    · cases h
theorem eqAgg_gives {P : Program} {t : TypeId} {x y : Operand} {v u : Value} {b : Bool} (h : eqAgg P t v u = some b) :
    Gives P (do eqGuard .eql t x y v u; binOp .eql t v u) (.bool b) ∧ Gives P (do eqGuard .neq t x y v u; binOp .neq t v u) (.bool !b) := by
  unfold eqAgg at h
  split at h
  · rename_i fs xs ys hu
    split at h
    · rename_i hs hg
      have hgd : ∀ op w, (eqGuard op t x y (.agg xs) (.agg ys)).run P w = .ok () w := by
        intro op w
        unfold eqGuard
        cases op
        case eql =>
          show Sem.run P (program >>= _) w = _
          rw [goes (a := P) (w' := w) rfl]
          show Sem.run P (program >>= _) w = _
          rw [goes (a := P) (w' := w) rfl]
          simp only [hg]; rfl
        case neq =>
          show Sem.run P (program >>= _) w = _
          rw [goes (a := P) (w' := w) rfl]
          show Sem.run P (program >>= _) w = _
          rw [goes (a := P) (w' := w) rfl]
          simp only [hg]; rfl
        all_goals rfl
      refine eqNil_gives (hgd _) (hgd _) (fun w => ?_) rfl rfl
      unfold Op.equal
      show (Op.equalIn (9998 + 1 + 1) t _ _).run P w = _
      unfold Op.equalIn
      rw [goes (underlying_gives hu w)]
      show Sem.run P (program >>= _) w = _
      rw [goes (a := P) (w' := w) rfl]
      simp only [hs]
      rw [← Array.forIn_toList]
      simp only [Bool.false_eq_true, if_false]
      refine (goes (eqFs_gives (d := 9998) w fs.toList b h)).trans ?_
      cases b <;> rfl
    · cases h
  · rename_i n e xs ys hu
    split at h
    · rename_i inf hg hi
      split at h
      · rename_i h1
        have h1' := Nat.eq_of_beq_eq_true h1
        have hgd : ∀ op w, (eqGuard op t x y (.agg xs) (.agg ys)).run P w = .ok () w := by
          intro op w
          unfold eqGuard
          cases op
          case eql =>
            show Sem.run P (program >>= _) w = _
            rw [goes (a := P) (w' := w) rfl]
            show Sem.run P (program >>= _) w = _
            rw [goes (a := P) (w' := w) rfl]
            simp only [hg]; rfl
          case neq =>
            show Sem.run P (program >>= _) w = _
            rw [goes (a := P) (w' := w) rfl]
            show Sem.run P (program >>= _) w = _
            rw [goes (a := P) (w' := w) rfl]
            simp only [hg]; rfl
          all_goals rfl
        refine eqNil_gives (hgd _) (hgd _) (fun w => ?_) rfl rfl
        unfold Op.equal
        show (Op.equalIn (9998 + 1 + 1) t _ _).run P w = _
        unfold Op.equalIn
        rw [goes (underlying_gives hu w), goes (sizeOf_gives hi w), h1']
        simp only [Std.Legacy.Range.forIn_eq_forIn_range', Std.Legacy.Range.size]
        rw [show (n - 0 + 1 - 1) / 1 = n by omega]
        refine (goes (eqArr_gives (d := 9998) w n 0 b h)).trans ?_
        cases b <;> rfl
      · cases h
    · cases h
  · cases h
theorem nilPtr {P : Program} {t e : TypeId} {x y : Operand} {p : Option Addr} (hu : P.underlying t = some (.pointer e)) :
    Gives P (do eqGuard .eql t x y (.pointer p) (.pointer none); binOp .eql t (.pointer p) (.pointer none)) (.bool p.isNone) ∧
    Gives P (do eqGuard .neq t x y (.pointer p) (.pointer none); binOp .neq t (.pointer p) (.pointer none)) (.bool !p.isNone) := by
  refine eqNil_gives (fun w => rfl) (fun w => rfl) (fun w => ?_) rfl rfl
  unfold Op.equal
  show (Op.equalIn (9999 + 1) t _ _).run P w = _
  unfold Op.equalIn
  rw [goes (underlying_gives hu w)]
  cases p <;> rfl
theorem nilSlice {P : Program} {t e : TypeId} {x y : Operand} {A : Option Addr} {n c : Nat} (hu : P.underlying t = some (.slice e)) :
    Gives P (do eqGuard .eql t x y (.slice A n c) (.slice none 0 0); binOp .eql t (.slice A n c) (.slice none 0 0)) (.bool A.isNone) ∧
    Gives P (do eqGuard .neq t x y (.slice A n c) (.slice none 0 0); binOp .neq t (.slice A n c) (.slice none 0 0)) (.bool !A.isNone) := by
  refine eqNil_gives (fun w => rfl) (fun w => rfl) (fun w => ?_) rfl rfl
  unfold Op.equal
  show (Op.equalIn (9999 + 1) t _ _).run P w = _
  unfold Op.equalIn
  rw [goes (underlying_gives hu w)]
  cases A <;> rfl
theorem nilMap {P : Program} {t e f : TypeId} {x y : Operand} {A : Option Nat} (hu : P.underlying t = some (.map e f)) :
    Gives P (do eqGuard .eql t x y (.map A) (.map none); binOp .eql t (.map A) (.map none)) (.bool A.isNone) ∧
    Gives P (do eqGuard .neq t x y (.map A) (.map none); binOp .neq t (.map A) (.map none)) (.bool !A.isNone) := by
  refine eqNil_gives (fun w => rfl) (fun w => rfl) (fun w => ?_) rfl rfl
  unfold Op.equal
  show (Op.equalIn (9999 + 1) t _ _).run P w = _
  unfold Op.equalIn
  rw [goes (underlying_gives hu w)]
  cases A <;> rfl
theorem spW_sound {P : Program} {n : Nat} {σ : Fr} {o : Oper} {K : Value → Prop} (h : spW P n σ o.op K) :
    ∃ v, (∀ w, (execOp (ev n σ) o).run P w = .ok (.value v) w) ∧ K v := by
  obtain ⟨dst, op, ty, pos, after, guard⟩ := o
  simp only at h
  unfold spW at h
  split at h
  · rename_i x
    obtain ⟨v, hv, hk⟩ := nilW_sound (P := P) h
    exact ⟨v, fun w => hv w, hk⟩
  · rename_i c a b
    split at h
    · rename_i t ht
      refine ⟨_, fun w => ?_, h⟩
      simp only [execOp, ht, asBool, pure_bind, pickV_eq]
      rfl
    · exact h.elim
  · obtain ⟨v, hv, hk⟩ := idxAddr_sound h; exact ⟨v, fun w => hv.next w, hk⟩
  · obtain ⟨v, hv, hk⟩ := idx_sound h; exact ⟨v, fun w => hv.next w, hk⟩
  · obtain ⟨v, hv, hk⟩ := slice_sound h; exact ⟨v, fun w => hv.next w, hk⟩
  · obtain ⟨v, hv, hk⟩ := arrPtr_sound h; exact ⟨v, fun w => hv.next w, hk⟩
  · obtain ⟨v, hv, hk⟩ := div_sound (.inl rfl) h; exact ⟨v, fun w => hv.next w, hk⟩
  · obtain ⟨v, hv, hk⟩ := div_sound (.inr rfl) h; exact ⟨v, fun w => hv.next w, hk⟩
  · obtain ⟨v, hv, hk⟩ := sh_sound (.inl rfl) h; exact ⟨v, fun w => hv.next w, hk⟩
  · obtain ⟨v, hv, hk⟩ := sh_sound (.inr rfl) h; exact ⟨v, fun w => hv.next w, hk⟩
  · split at h
    · rename_i hu hv
      exact ⟨_, fun w => by simp only [execOp]; rw [hv]; exact ((nilPtr hu).1).next w, h⟩
    · exact h.elim
  · split at h
    · rename_i hu hv
      exact ⟨_, fun w => by simp only [execOp]; rw [hv]; exact ((nilPtr hu).2).next w, h⟩
    · exact h.elim
  · split at h
    · rename_i hu hv
      exact ⟨_, fun w => by simp only [execOp]; rw [hv]; exact ((nilSlice hu).1).next w, h⟩
    · exact h.elim
  · split at h
    · rename_i hu hv
      exact ⟨_, fun w => by simp only [execOp]; rw [hv]; exact ((nilSlice hu).2).next w, h⟩
    · exact h.elim
  · split at h
    · rename_i hu hv
      exact ⟨_, fun w => by simp only [execOp]; rw [hv]; exact ((nilMap hu).1).next w, h⟩
    · exact h.elim
  · split at h
    · rename_i hu hv
      exact ⟨_, fun w => by simp only [execOp]; rw [hv]; exact ((nilMap hu).2).next w, h⟩
    · exact h.elim
  · split at h
    · rename_i b hb
      exact ⟨_, fun w => ((eqAgg_gives hb).1).next w, h⟩
    · exact h.elim
  · split at h
    · rename_i b hb
      exact ⟨_, fun w => ((eqAgg_gives hb).2).next w, h⟩
    · exact h.elim
  · exact h.elim
def isMapT (P : Program) (t : TypeId) : Bool := match P.underlying t with | some (.map _ _) => true | _ => false
def isIntT (P : Program) (t : TypeId) : Bool := match P.underlying t with | some (.int _) => true | _ => false
def bigT (P : Program) (t : TypeId) : Bool := match P.info? t with | some i => Nat.blt 64 i.size | none => false
def rawT (P : Program) (op : BinOp) (t : TypeId) : Bool := match P.underlying t with
  | some (.float _) => true
  | some (.complex _) => true
  | some .string => (match op with | .add => true | _ => false)
  | some (.struct _) => true
  | some (.array _ _) => true
  | some (.interface _) => true
  | some (.pointer _) => true
  | _ => false
def rawV (P : Program) (ρ : Operand → Value) (op : Op) (ty : TypeId) : Option (Sem Value) := match op with
  | .call ⟨.builtin .append, args, ts⟩ => some (Builtin.append_ ts ty (args.map ρ))
  | .call ⟨.builtin .copy, args, ts⟩ => some (Builtin.copy_ ts ty (args.map ρ))
  | .call ⟨.builtin .delete, args, ts⟩ => some (Builtin.delete_ ts ty (args.map ρ))
  | .call ⟨.builtin .clear, args, ts⟩ => some (Builtin.clear_ ts ty (args.map ρ))
  | .call ⟨.builtin .len, args, ts⟩ => match isMapT P (ts.getD 0 0) with
    | true => some (Builtin.len_ ts ty (args.map ρ))
    | false => none
  | .lookup t x ix ok => some (Instr.lookup t (ρ x) (ρ ix) ok)
  | .mapEntry t m k => some (Instr.mapEntry t (ρ m) (ρ k))
  | .makeSlice t l c => some (Instr.makeSlice t (ρ l) (ρ c))
  | .convert src dst x => match isIntT P src && isIntT P dst with
    | true => none
    | false => some (Go.convert src dst (ρ x))
  | .range t x => some (Instr.range t (ρ x))
  | .next it b => some (Instr.next (ρ it) b ty)
  | .entry it => some (Instr.entry (ρ it))
  | .load t a => match bigT P t with
    | true => some (Instr.loadAt t (ρ a))
    | false => none
  | .binOp op t x y _ => match rawT P op t with
    | true => some (do eqGuard op t x y (ρ x) (ρ y); binOp op t (ρ x) (ρ y))
    | false => none
  | _ => none
def rawU (P : Program) (ρ : Operand → Value) (op : Op) : Option (Sem Unit) := match op with
  | .store t a x => match bigT P t with
    | true => some (Instr.storeAt t (ρ a) (ρ x))
    | false => none
  | .mapUpdate t m k x => some (Instr.mapUpdate t (ρ m) (ρ k) (ρ x))
  | .insert t m k x => some (Instr.mapUpdate t (ρ m) (ρ k) (ρ x))
  | .entryStore t m s x => some (Instr.entryStore t (ρ m) (ρ s) (ρ x))
  | _ => none
def isExtF (P : Program) (f : FuncId) : Bool := match P.funcs[f]? with | some fn => fn.body.isNone | none => false
def rawX (P : Program) (ρ : Operand → Value) (op : Op) : Option (Sem Next) := match op with
  | .call ⟨.value (.func f), args, _⟩ => match isExtF P f with
    | true => some (callFunc f (args.map ρ))
    | false => none
  | _ => none
theorem rawV_run {P : Program} {ρ : Operand → Value} {o : Oper} {s : Sem Value} (h : rawV P ρ o.op o.type = some s) : execOp ρ o = (do pure (Next.value (← s)) : Sem Next) := by
  obtain ⟨dst, op, ty, pos, after, guard⟩ := o
  simp only at h
  unfold rawV at h
  split at h <;> first
    | (injection h with h; subst h; rfl)
    | (split at h <;> first | (injection h with h; subst h; rfl) | cases h)
    | cases h
theorem rawX_run {P : Program} {n : Nat} {σ : Fr} {o : Oper} {s : Sem Next} (h : rawX P (ev n σ) o.op = some s) : execOp (ev n σ) o = s := by
  obtain ⟨dst, op, ty, pos, after, guard⟩ := o
  simp only at h
  unfold rawX at h
  split at h
  · split at h
    · injection h with h; subst h
      simp [execOp, resolve, invoke, Deferred.ofValue, ev]
    · cases h
  · cases h
theorem rawU_run {P : Program} {ρ : Operand → Value} {o : Oper} {s : Sem Unit} (h : rawU P ρ o.op = some s) : execOp ρ o = (do s; pure Next.skip : Sem Next) := by
  obtain ⟨dst, op, ty, pos, after, guard⟩ := o
  simp only at h
  unfold rawU at h
  split at h <;> first
    | (injection h with h; subst h; rfl)
    | (split at h <;> first | (injection h with h; subst h; rfl) | cases h)
    | cases h
def opW (P : Program) (hT : Hint) (n : Nat) (o : Oper) (σ : Fr) (K : Fr → World → Prop) (w : World) : Prop :=
  match isSp P o.op with
  | true => spW P n σ o.op fun v => K (putO σ o.dst v) w
  | false => match rawV P (ev n σ) o.op o.type with
    | some s => Runs P s w fun v w' => bindRet (retOf hT o.op o.type o.dst) fun v' => v = v' ∧ K (putO σ o.dst v') w'
    | none => match rawU P (ev n σ) o.op with
      | some s => Runs P s w fun _ w' => K (putO σ o.dst undef) w'
      | none => match rawX P (ev n σ) o.op with
        | some s => Runs P s w fun x w' => bindRet (hT o.type) fun v => x = .value v ∧ K (putO σ o.dst v) w'
        | none => wpS P (execOp (ev n σ) o) (match o.op with | .load t _ => (hT t).loads | _ => []) (opK P hT o σ K) w
theorem opW_sound {P : Program} {hT : Hint} {n : Nat} {o : Oper} {σ : Fr} {K : Fr → World → Prop} {next : Act → World → Prop} {Q : Exit → Act → World → Prop}
    {w : World} (hK : ∀ σ' w', K σ' w' → next (act ds n σ') w') (h : opW P hT n o σ K w) : o.wp P (act ds n σ) w next Q := by
  unfold opW at h
  split at h
  · obtain ⟨v, hv, hk⟩ := spW_sound h
    unfold Oper.wp
    rw [act_eval, hv w]
    simp only [Oper.upon]; rw [act_put]; exact hK _ _ hk
  · split at h
    · rename_i s hs
      obtain ⟨v, w', hr, hk⟩ := h
      obtain ⟨v', rfl, hk⟩ := bindRet_elim hk
      unfold Oper.wp
      rw [act_eval, rawV_run hs, goes hr]
      show next ((act ds n σ).put o.dst v) w'
      rw [act_put]; exact hK _ _ hk
    · split at h
      · rename_i s hs
        obtain ⟨v, w', hr, hk⟩ := h
        unfold Oper.wp
        rw [act_eval, rawU_run hs, goes hr]
        show next ((act ds n σ).put o.dst undef) w'
        rw [act_put]; exact hK _ _ hk
      · split at h
        · rename_i s hs
          obtain ⟨x, w', hr, hk⟩ := h
          obtain ⟨v, hx, hk2⟩ := bindRet_elim hk
          subst hx
          unfold Oper.wp
          rw [act_eval, rawX_run hs, hr]
          simp only [Oper.upon]; rw [act_put]; exact hK _ _ hk2
        · obtain ⟨x, w', hr, hk⟩ := wpS_run _ _ _ _ _ h
          exact opK_sound hK hr hk
def guardW (ops : Array Oper) (o : Oper) (σ : Fr) (n : Nat) (X : Fr → Prop) (Y : Fr → Prop) : Prop := match o.guard with
  | none => X σ
  | some (j, want) => match (ops[j]?).bind (·.dst) with
    | some s => req (Nat.blt s n) (match σ s with
      | .bool b => sel b (match want with | true => X (up σ s (.bool true)) | false => Y (up σ s (.bool true))) (match want with | true => Y (up σ s (.bool false)) | false => X (up σ s (.bool false)))
      | .tuple _ => Y σ
      | _ => False)
    | none => False
theorem guardW_sound {ops : Array Oper} {o : Oper} {σ : Fr} {n : Nat} {X Y : Fr → Prop} (h : guardW ops o σ n X Y) :
    (Region.wanted o (yielded ops (act ds n σ).tmps) = true ∧ X σ) ∨ (Region.wanted o (yielded ops (act ds n σ).tmps) = false ∧ Y σ) := by
  unfold guardW at h
  unfold Region.wanted
  split at h
  · rename_i hg; rw [hg]; exact .inl ⟨rfl, h⟩
  · rename_i j want hg
    rw [hg]
    split at h
    · rename_i s hs
      obtain ⟨hlt, h⟩ := req_elim h
      have hlt' : s < n := Nat.blt_eq.mp hlt
      split at h
      · rename_i b hb
        have hy : yielded ops (act ds n σ).tmps j = some b := by
          unfold yielded
          rw [hs]
          simp only [Option.bind_some]
          rw [act_get, if_pos hlt', hb]
        simp only [hy]
        cases b <;> cases want <;> simp only [sel] at h <;> rw [up_self hb] at h
        · exact .inl ⟨rfl, h⟩
        · exact .inr ⟨rfl, h⟩
        · exact .inr ⟨rfl, h⟩
        · exact .inl ⟨rfl, h⟩
      · rename_i vs hb
        have hy : yielded ops (act ds n σ).tmps j = none := by
          unfold yielded
          rw [hs]
          simp only [Option.bind_some]
          rw [act_get, if_pos hlt', hb]
        simp only [hy]
        exact .inr ⟨rfl, h⟩
      · exact h.elim
    · exact h.elim
def opsW (P : Program) (hT : Hint) (n : Nat) (ops : Array Oper) : List Oper → Fr → (Fr → World → Prop) → World → Prop
  | [], σ, K, w => K σ w
  | o :: r, σ, K, w => guardW ops o σ n (fun σ => opW P hT n o σ (fun σ' w' => opsW P hT n ops r σ' K w') w) (fun σ => opsW P hT n ops r (putO σ o.dst undef) K w)
theorem opsW_sound {P : Program} {hT : Hint} {n : Nat} {ops : Array Oper} {Q : Exit → Act → World → Prop} {K : Fr → World → Prop}
    (hK : ∀ σ' w', K σ' w' → Q .normal (act ds n σ') w') : ∀ (l : List Oper) (σ : Fr) (w : World), opsW P hT n ops l σ K w → wpList P ops Q l (act ds n σ) w
  | [], σ, w, h => hK σ w h
  | o :: r, σ, w, h => by
    unfold wpList
    rcases guardW_sound h with ⟨hw, h⟩ | ⟨hw, h⟩
    · rw [if_pos hw]
      exact .inl (opW_sound (fun σ' w' h' => opsW_sound hK r σ' w' h') h)
    · rw [if_neg (by rw [hw]; exact Bool.false_ne_true), act_put]
      exact opsW_sound hK r _ w h
def rdP (P : Program) {α : Type} : Sem α → List Sh → (Addr → Value → Prop) → (α → Prop) → Prop
  | .pure a, _, _, K => K a
  | .load _ a k, hs, rd, K => bindSh (hs.headD .any) fun v => rd a v ∧ rdP P (k v) hs.tail rd K
  | .program k, hs, rd, K => rdP P (k P) hs rd K
  | .mark _ k, hs, rd, K => rdP P k hs rd K
  | _, _, _, _ => False
theorem rdP_run (P : Program) {α : Type} (S : World → Prop) (rd : Addr → Value → Prop) (hrd : ∀ a v, rd a v → ∀ w, S w → w.cell? a = some v) (s : Sem α) :
    ∀ (hs : List Sh) (K : α → Prop), rdP P s hs rd K → ∃ a, (∀ w, S w → s.run P w = .ok a w) ∧ K a := by
  induction s with
  | pure a => intro hs K h; exact ⟨a, fun w _ => rfl, h⟩
  | load m a k ih =>
    intro hs K h
    obtain ⟨v, hc, h⟩ := bindSh_elim h
    obtain ⟨x, hr, hk⟩ := ih v _ _ h
    exact ⟨x, fun w hw => by simp only [Sem.run, hrd a v hc w hw]; exact hr w hw, hk⟩
  | program k ih => intro hs K h; obtain ⟨x, hr, hk⟩ := ih _ _ _ h; exact ⟨x, fun w hw => hr w hw, hk⟩
  | mark m k ih => intro hs K h; obtain ⟨x, hr, hk⟩ := ih _ _ h; exact ⟨x, fun w hw => hr w hw, hk⟩
  | _ => intro hs K h; exact h.elim
def valW (P : Program) (hT : Hint) (n : Nat) (o : Oper) (σ : Fr) (rd : Addr → Value → Prop) (K : Value → Prop) : Prop :=
  match isSp P o.op with
  | true => spW P n σ o.op K
  | false => rdP P (execOp (ev n σ) o) (match o.op with | .load t _ => (hT t).loads | _ => []) rd fun x => match x with | .value v => K v | _ => False
def fstW (P : Program) (hT : Hint) (n : Nat) (ops : Array Oper) (o : Oper) (σ : Fr) (rd : Addr → Value → Prop) (K : Fr → Prop) : Prop :=
  guardW ops o σ n (fun σ => valW P hT n o σ rd fun v => K (putO σ o.dst v)) (fun σ => K (putO σ o.dst undef))
theorem fstW_sound {P : Program} {hT : Hint} {n : Nat} {ops : Array Oper} {o : Oper} {σ : Fr} {rd : Addr → Value → Prop} {K : Fr → Prop} {S : World → Prop}
    (hrd : ∀ a v, rd a v → ∀ w, S w → w.cell? a = some v) (h : fstW P hT n ops o σ rd K) : ∃ v, YieldsIf P ops S o v (act ds n σ) ∧ K (putO σ o.dst v) := by
  rcases guardW_sound h with ⟨hw, h⟩ | ⟨hw, h⟩
  · unfold valW at h
    split at h
    · obtain ⟨v, hv, hk⟩ := spW_sound h
      exact ⟨v, .inl ⟨hw, fun w _ => by rw [act_eval]; exact hv w⟩, hk⟩
    · obtain ⟨x, hr, hk⟩ := rdP_run P S rd hrd _ _ _ h
      cases x <;> simp only at hk
      exact ⟨_, .inl ⟨hw, fun w hw' => by rw [act_eval]; exact hr w hw'⟩, hk⟩
  · exact ⟨undef, .inr ⟨hw, rfl⟩, h⟩
inductive DI where
  | fst (i : Nat) | eff (i : Nat)
def DI.ix : DI → Nat
  | .fst i => i
  | .eff i => i
def effW (P : Program) (hT : Hint) (n : Nat) (ops : Array Oper) (o : Oper) (σ : Fr) (K : Fr → World → Prop) (w : World) : Prop :=
  guardW ops o σ n (fun σ => opW P hT n o σ K w) (fun σ => K (putO σ o.dst undef) w)
theorem effW_sound {P : Program} {hT : Hint} {n : Nat} {ops : Array Oper} {o : Oper} {i : Nat} {σ : Fr} {K : Fr → World → Prop} {w : World} {Q : Exit → Act → World → Prop} {K' : Act → World → Prop}
    (hi : ops[i]? = some o) (hK : ∀ σ' w', K σ' w' → K' (act ds n σ') w') (h : effW P hT n ops o σ K w) : wpOp P ops Q i K' (act ds n σ) w := by
  unfold wpOp
  simp only [hi]
  rcases guardW_sound h with ⟨hw, h⟩ | ⟨hw, h⟩
  · rw [if_pos hw]; exact .inl (opW_sound hK h)
  · rw [if_neg (by rw [hw]; exact Bool.false_ne_true), act_put]; exact hK _ _ h
def drawB (P : Program) (hT : Hint) (n : Nat) (ops : Array Oper) : List DI → Fr → (Fr → World → Prop) → World → Prop
  | [], σ, K, w => K σ w
  | .fst i :: r, σ, K, w => match ops[i]? with
    | some o => fstW P hT n ops o σ (fun _ _ => False) fun σ' => drawB P hT n ops r σ' K w
    | none => False
  | .eff i :: r, σ, K, w => match ops[i]? with
    | some o => effW P hT n ops o σ (fun σ' w' => drawB P hT n ops r σ' K w') w
    | none => False
def drawA (P : Program) (hT : Hint) (n : Nat) (ops : Array Oper) (S : World → Prop) (rd : Addr → Value → Prop) : List DI → Fr → (Fr → World → Prop) → World → Prop
  | [], σ, K, w => K σ w
  | .fst i :: r, σ, K, w => match ops[i]? with
    | some o => fstW P hT n ops o σ rd fun σ' => drawA P hT n ops S rd r σ' K w
    | none => False
  | .eff i :: r, σ, K, w => match ops[i]? with
    | some o => effW P hT n ops o σ (fun σ' w' => S w' ∧ drawA P hT n ops S rd r σ' K w') w
    | none => False
def stepOk (ops : Array Oper) (d : DI) (listed : Array Bool) : Bool := match d with
  | .fst i => (Region.ready .any ops listed).contains i && Region.free .any ops listed i
  | .eff i => match Region.ready .any ops listed with
    | [j] => j == i
    | _ => false
def chkB (ops : Array Oper) : List DI → Array Bool → Bool
  | [], listed => (Region.ready .any ops listed).isEmpty
  | d :: r, listed => stepOk ops d listed && chkB ops r (listed.setIfInBounds d.ix true)
def uni (M : List Nat) (i : Nat) (l : List Edge) : Nat := match l with
  | [] => 0
  | e :: r => match Region.binds .any e && Nat.blt e.on i with
    | true => uni M i r ||| (2 ^ e.on ||| M.getD e.on 0)
    | false => uni M i r
def masks (l : List Oper) (acc : List Nat) : List Nat := match l with
  | [] => acc
  | o :: r => masks r (acc ++ [uni acc acc.length o.after.toList])
def certOk (ops : Array Oper) (M : List Nat) : Bool := (List.range ops.size).all fun i => match ops[i]? with
  | some o => let u := uni M i o.after.toList; Nat.beq (u ||| M.getD i 0) u
  | none => false
theorem uni_bit {M : List Nat} {i h : Nat} : ∀ {l : List Edge}, (uni M i l).testBit h = true → ∃ e ∈ l, Region.binds .any e = true ∧ e.on < i ∧ (e.on = h ∨ (M.getD e.on 0).testBit h = true)
  | [], hb => by simp [uni] at hb
  | e :: r, hb => by
    simp only [uni] at hb
    split at hb
    · rename_i hc
      simp only [Bool.and_eq_true] at hc
      rw [Nat.testBit_or, Nat.testBit_or, Bool.or_eq_true, Bool.or_eq_true] at hb
      rcases hb with hb | hb | hb
      · obtain ⟨e', he', h'⟩ := uni_bit hb; exact ⟨e', List.mem_cons_of_mem _ he', h'⟩
      · refine ⟨e, List.mem_cons_self, hc.1, Nat.blt_eq.mp hc.2, .inl ?_⟩
        rw [Nat.testBit_two_pow] at hb
        simpa using hb
      · exact ⟨e, List.mem_cons_self, hc.1, Nat.blt_eq.mp hc.2, .inr hb⟩
    · obtain ⟨e', he', h'⟩ := uni_bit hb; exact ⟨e', List.mem_cons_of_mem _ he', h'⟩
def chkA (ops : Array Oper) (hd : List Nat) (B : List DI) : List DI → Array Bool → Bool
  | [], listed => (Region.ready .any ops listed).all (fun j => !hd.contains j) && chkB ops B listed
  | d :: r, listed => hd.contains d.ix && stepOk ops d listed && chkA ops hd B r (listed.setIfInBounds d.ix true)
def chkD (ops : Array Oper) (A B : List DI) : Bool :=
  Region.noSelect ops && (A.length + B.length == ops.size) &&
  certOk ops (masks ops.toList []) &&
  (List.range ops.size).all (fun t => (A.map DI.ix).contains t || (A.map DI.ix).all fun h => ((masks ops.toList []).getD t 0).testBit h) &&
  chkA ops (A.map DI.ix) B A (Array.replicate ops.size false)
theorem stepOk_eff {ops : Array Oper} {i : Nat} {listed : Array Bool} (h : stepOk ops (.eff i) listed = true) : Region.ready .any ops listed = [i] := by
  unfold stepOk at h
  split at h
  · cases ‹DI.eff i = DI.fst _›
  · rename_i i' hi
    injection hi with hi; subst hi
    split at h
    · rename_i j hj; rw [hj]; simpa using h
    · cases h
section
variable {P : Program} {hT : Hint} {n : Nat} {ops : Array Oper} {Q : Exit → Act → World → Prop}
theorem drawB_sound {K : Fr → World → Prop} (hs : Region.noSelect ops = true) (hQ : ∀ c a w, ¬ Q (.panic c) a w) (hK : ∀ σ w, K σ w → Q .normal (act ds n σ) w) :
    ∀ (l : List DI) (listed : Array Bool) (σ : Fr) (w : World), chkB ops l listed = true → drawB P hT n ops l σ K w → wpAny P .any ops Q l.length listed (act ds n σ) w
  | [], listed, σ, w, hc, h => by
    refine wpAny_done ?_ (hK σ w h) 0
    simpa [chkB] using hc
  | .fst i :: r, listed, σ, w, hc, h => by
    simp only [chkB, stepOk, DI.ix, Bool.and_eq_true] at hc
    obtain ⟨⟨hr, hf⟩, hc⟩ := hc
    simp only [drawB] at h
    split at h
    · rename_i o ho
      obtain ⟨v, hy, h⟩ := fstW_sound (S := fun _ => True) (fun a v h => h.elim) h
      refine wpAny_take ho hs hf hr (fun c a w hh => absurd hh (hQ _ _ _)) ?_ ?_ (v := v)
      · exact hy.imp (fun ⟨a, b⟩ => ⟨a, fun w => b w trivial⟩) id
      · rw [act_put]; exact drawB_sound hs hQ hK r _ _ w hc h
    · exact h.elim
  | .eff i :: r, listed, σ, w, hc, h => by
    simp only [chkB, DI.ix, Bool.and_eq_true] at hc
    obtain ⟨hr, hc⟩ := hc
    simp only [drawB] at h
    split at h
    · rename_i o ho
      refine wpAny_all (stepOk_eff hr) (by simp) ?_
      intro j hj
      obtain rfl : j = i := by simpa using hj
      exact effW_sound ho (fun σ' w' h' => drawB_sound hs hQ hK r _ σ' w' hc h') h
    · exact h.elim
structure Inv (ops : Array Oper) (pre : List Nat) (listed : Array Bool) : Prop where
  size : listed.size = ops.size
  did : ∀ p ∈ pre, listed.getD p false = true
  closed : ∀ j oj, ops[j]? = some oj → listed.getD j false = true → ∀ e ∈ oj.after, Region.binds .any e = true → listed.getD e.on false = true
theorem getD_ft {listed : Array Bool} {i : Nat} (h : listed.getD i true = false) : listed.getD i false = false := by
  rcases Nat.lt_or_ge i listed.size with h' | h'
  · simp [h'] at h ⊢; exact h
  · simp [Array.getElem?_eq_none h'] at h
theorem Inv.set {hd : List Nat} {i : Nat} {listed : Array Bool} (inv : Inv ops hd listed) (hi : i ∈ Region.ready .any ops listed) : Inv ops hd (listed.setIfInBounds i true) := by
  obtain ⟨_, oi, hoi, hall⟩ := mem_ready.1 hi
  refine ⟨by simp [inv.size], fun p hp => getD_set_true (inv.did p hp), fun j oj hj hl e he hb => ?_⟩
  by_cases hij : i = j
  · subst hij
    have : oj = oi := Option.some.inj (hj.symm.trans hoi)
    subst this
    exact getD_set_true (hall e he hb)
  · rw [getD_set_ne false hij] at hl
    exact getD_set_true (inv.closed j oj hj hl e he hb)
theorem wt_listed {hd : List Nat} {listed : Array Bool} {M : List Nat} (hM : certOk ops M = true) (inv : Inv ops hd listed) (h : Nat) : ∀ (t : Nat), t < ops.size → (M.getD t 0).testBit h = true →
    (listed.getD t false = true → listed.getD h false = true) ∧ (t ∈ Region.ready .any ops listed → listed.getD h false = true) := by
  intro t
  induction t using Nat.strongRecOn with
  | _ t ih =>
    intro ht hb
    have hc := List.all_eq_true.1 hM t (List.mem_range.2 ht)
    split at hc
    · rename_i o ho
      have hu := Nat.eq_of_beq_eq_true hc
      have hb' : (uni M t o.after.toList).testBit h = true := by
        rw [← hu, Nat.testBit_or, hb, Bool.or_true]
      obtain ⟨e, he, hbi, hlt, hor⟩ := uni_bit hb'
      have he' : e ∈ o.after := by simpa using he
      have key : listed.getD e.on false = true → listed.getD h false = true := fun hl => by
        rcases hor with hor | hor
        · rw [← hor]; exact hl
        · exact (ih e.on hlt (by omega) hor).1 hl
      refine ⟨fun hl => key (inv.closed t o ho hl e he' hbi), fun hr => ?_⟩
      obtain ⟨_, o', ho', hall⟩ := mem_ready.1 hr
      have : o' = o := Option.some.inj (ho'.symm.trans ho)
      subst this
      exact key (hall e he' hbi)
    · cases hc
def HL (P : Program) (ops : Array Oper) (Q : Exit → Act → World → Prop) (S : World → Prop) (hd : List Nat) (L : Array Bool → Act → World → Prop) : Nat → Array Bool → Act → World → Prop
  | 0, listed, a, w => L listed a w
  | f + 1, listed, a, w => Region.ready .any ops listed ≠ [] ∧
    ∀ i ∈ Region.ready .any ops listed, i ∈ hd ∧ wpOp P ops Q i (fun a' w' => S w' ∧ HL P ops Q S hd L f (listed.setIfInBounds i true) a' w') a w
theorem HL_any {S : World → Prop} {hd : List Nat} {g : Nat} {L : Array Bool → Act → World → Prop} (hL : ∀ listed a w, L listed a w → wpAny P .any ops Q g listed a w) :
    ∀ (f : Nat) (listed : Array Bool) (a : Act) (w : World), HL P ops Q S hd L f listed a w → wpAny P .any ops Q (f + g) listed a w
  | 0, listed, a, w, h => by rw [Nat.zero_add]; exact hL _ _ _ h
  | f + 1, listed, a, w, h => by
    rw [show f + 1 + g = (f + g) + 1 by omega]
    exact ⟨fun h0 => absurd h0 h.1, fun i hi => wpOp_mono (fun a' w' h' => HL_any hL f _ a' w' h'.2) (h.2 i hi).2⟩
theorem HL_first {M : List Nat} {S : World → Prop} {hd pre : List Nat} {L : Array Bool → Act → World → Prop} {i : Nat} {oi : Oper} {v : Value} (hi : ops[i]? = some oi)
    (hsel : Region.noSelect ops = true) (hQ : ∀ c a w, ¬ Q (.panic c) a w) (hin : i ∈ hd)
    (hM : certOk ops M = true) (hwt : ∀ t, t < ops.size → t ∉ hd → t ∉ pre → ∀ h ∈ hd, (M.getD t 0).testBit h = true)
    (hdone : ∀ listed a w, L listed a w → ∀ j ∈ Region.ready .any ops listed, j ∉ hd) :
    ∀ (f : Nat) (listed : Array Bool) (a : Act) (w : World), Inv ops pre listed →
      (∀ j oj, ops[j]? = some oj → j ≠ i → listed.getD j true = false → (∀ e ∈ oj.after, Region.binds .any e = true → e.on ≠ i) → oi.apart ops oj = true) →
      i ∈ Region.ready .any ops listed → YieldsIf P ops S oi v a → S w →
      HL P ops Q S hd L f (listed.setIfInBounds i true) (a.put oi.dst v) w → HL P ops Q S hd L (f + 1) listed a w := by
  have hsel' := Region.noSelect_spec hsel
  have heads : ∀ listed, Inv ops pre listed → i ∈ Region.ready .any ops listed → ∀ j ∈ Region.ready .any ops listed, j ∈ hd := by
    intro listed inv hr j hj
    by_cases hjd : j ∈ hd
    · exact hjd
    · obtain ⟨_, oj, hoj, _⟩ := mem_ready.1 hj
      have hjp : j ∉ pre := fun hp => by
        have h1 := inv.did j hp
        rw [getD_ft (mem_ready.1 hj).1] at h1
        cases h1
      have h1 := (wt_listed hM inv i j (Array.getElem?_eq_some_iff.1 hoj).1 (hwt j (Array.getElem?_eq_some_iff.1 hoj).1 hjd hjp i hin)).2 hj
      rw [getD_ft (mem_ready.1 hr).1] at h1
      cases h1
  intro f
  induction f with
  | zero =>
    intro listed a w inv _ hr hy hS H
    refine ⟨fun h => (by rw [h] at hr; cases hr), fun j hj => ⟨heads listed inv hr j hj, ?_⟩⟩
    by_cases hji : j = i
    · subst hji; exact hy.wpOp hi hS ⟨hS, H⟩
    · exact absurd (heads listed inv hr j hj) (hdone _ _ _ H j (ready_mono hj hji))
  | succ f ih =>
    intro listed a w inv hfree hr hy hS H
    refine ⟨fun h => (by rw [h] at hr; cases hr), fun j hj => ⟨heads listed inv hr j hj, ?_⟩⟩
    by_cases hji : j = i
    · subst hji; exact hy.wpOp hi hS ⟨hS, H⟩
    · have h1 := (H.2 j (ready_mono hj hji)).2
      obtain ⟨hjun, oj, hoj, hall⟩ := mem_ready.1 hj
      have hnot : ∀ e ∈ oj.after, Region.binds .any e = true → e.on ≠ i := fun e he hb heq => by
        have h1 := hall e he hb
        rw [heq, getD_ft (mem_ready.1 hr).1] at h1
        cases h1
      have h2 := wpOp_putIf hoj (hfree j oj hoj hji hjun hnot) (fun cs b => hsel' i oi cs b hi) (fun cs b => hsel' j oj cs b hoj)
        (fun c a w hh => absurd hh (hQ _ _ _)) hy h1
      have hfree' : ∀ k ok, ops[k]? = some ok → k ≠ i → (listed.setIfInBounds j true).getD k true = false →
          (∀ e ∈ ok.after, Region.binds .any e = true → e.on ≠ i) → oi.apart ops ok = true := fun k ok hk hki hun hno => by
        refine hfree k ok hk hki ?_ hno
        by_cases hjk : j = k
        · subst hjk; exact hjun
        · rw [getD_set_ne true hjk] at hun; exact hun
      refine wpOp_mono (fun a' w' h3 => ⟨h3.2.1, ih (listed.setIfInBounds j true) a' w' (inv.set hj) hfree' (ready_mono hr (Ne.symm hji)) h3.1 h3.2.1 ?_⟩) h2
      rw [Array.setIfInBounds_comm _ _ hji]
      exact h3.2.2
theorem drawA_sound {M : List Nat} {S : World → Prop} {rd : Addr → Value → Prop} {hd pre : List Nat} {B : List DI} {K : Fr → World → Prop} {L : Array Bool → Act → World → Prop}
    (hrd : ∀ a v, rd a v → ∀ w, S w → w.cell? a = some v) (hs : Region.noSelect ops = true) (hQ : ∀ c a w, ¬ Q (.panic c) a w)
    (hM : certOk ops M = true) (hwt : ∀ t, t < ops.size → t ∉ hd → t ∉ pre → ∀ h ∈ hd, (M.getD t 0).testBit h = true)
    (hL : ∀ listed a w, L listed a w ↔ (∃ σ, a = act ds n σ ∧ K σ w) ∧ (Region.ready .any ops listed).all (fun j => !hd.contains j) = true ∧ chkB ops B listed = true) :
    ∀ (l : List DI) (listed : Array Bool) (σ : Fr) (w : World), Inv ops pre listed → chkA ops hd B l listed = true → S w → drawA P hT n ops S rd l σ K w →
      HL P ops Q S hd L l.length listed (act ds n σ) w
  | [], listed, σ, w, inv, hc, hS, h => by
    simp only [chkA, Bool.and_eq_true] at hc
    exact (hL _ _ _).2 ⟨⟨σ, rfl, h⟩, hc.1, hc.2⟩
  | .fst i :: r, listed, σ, w, inv, hc, hS, h => by
    simp only [chkA, stepOk, DI.ix, Bool.and_eq_true] at hc
    obtain ⟨⟨hin, hr, hf⟩, hc⟩ := hc
    simp only [drawA] at h
    split at h
    · rename_i o ho
      obtain ⟨v, hy, h⟩ := fstW_sound hrd h
      have hr' : i ∈ Region.ready .any ops listed := by simpa using hr
      refine HL_first ho hs hQ (by simpa using hin) hM hwt (fun listed a w h j hj => ?_) r.length listed _ w inv (Region.free_spec ho hf) hr' hy hS ?_
      · have := List.all_eq_true.1 ((hL _ _ _).1 h).2.1 j hj
        simpa using this
      · rw [act_put]; exact drawA_sound hrd hs hQ hM hwt hL r _ _ w (inv.set hr') hc hS h
    · exact h.elim
  | .eff i :: r, listed, σ, w, inv, hc, hS, h => by
    simp only [chkA, DI.ix, Bool.and_eq_true] at hc
    obtain ⟨⟨hin, hr⟩, hc⟩ := hc
    simp only [drawA] at h
    split at h
    · rename_i o ho
      have hre := stepOk_eff hr
      refine ⟨by rw [hre]; simp, fun j hj => ?_⟩
      obtain rfl : j = i := by rw [hre] at hj; simpa using hj
      refine ⟨by simpa using hin, effW_sound ho (fun σ' w' h' => ⟨h'.1, ?_⟩) h⟩
      exact drawA_sound hrd hs hQ hM hwt hL r _ σ' w' (inv.set hj) hc h'.1 h'.2
    · exact h.elim
theorem draw_sound {id : Nat} {S : World → Prop} {rd : Addr → Value → Prop} {A B : List DI} {K : Fr → World → Prop} {σ : Fr} {w : World}
    (hm : P.follows .mixedOrders = true) (hc : chkD ops A B = true) (hQ : ∀ c a w, ¬ Q (.panic c) a w) (hK : ∀ σ w, K σ w → Q .normal (act ds n σ) w)
    (hrd : ∀ a v, rd a v → ∀ w, S w → w.cell? a = some v) (hS : S w.drew)
    (h : drawA P hT n ops S rd A σ (fun σ w => drawB P hT n ops B σ K w) w.drew) : (Code.region id ops true).wp P Q (act ds n σ) w := by
  simp only [chkD, Bool.and_eq_true, beq_iff_eq] at hc
  obtain ⟨⟨⟨⟨hs, hlen⟩, hM⟩, hwt⟩, hc⟩ := hc
  have hwt' : ∀ t, t < ops.size → t ∉ A.map DI.ix → t ∉ ([] : List Nat) → ∀ h ∈ A.map DI.ix, ((masks ops.toList []).getD t 0).testBit h = true := by
    intro t ht htn _ x hx
    have h1 := List.all_eq_true.1 hwt t (List.mem_range.2 ht)
    simp only [Bool.or_eq_true, List.contains_iff_mem] at h1
    rcases h1 with h1 | h1
    · exact absurd h1 htn
    · exact List.all_eq_true.1 h1 x hx
  refine wp_region_any hm ?_
  have inv0 : Inv ops [] (Array.replicate ops.size false) := by
    refine ⟨by simp, (fun p hp => by simp at hp), fun j oj hj hl => ?_⟩
    rw [Array.getD_eq_getD_getElem?] at hl
    rcases Nat.lt_or_ge j ops.size with h' | h'
    · simp [h'] at hl
    · simp [h'] at hl
  have H := drawA_sound (P := P) (hT := hT) (n := n) (ops := ops) (Q := Q) (S := S) (rd := rd) (hd := A.map DI.ix) (B := B) (K := fun σ w => drawB P hT n ops B σ K w)
    (L := fun listed a w => (∃ σ, a = act ds n σ ∧ drawB P hT n ops B σ K w) ∧ (Region.ready .any ops listed).all (fun j => !(A.map DI.ix).contains j) = true ∧ chkB ops B listed = true)
    hrd hs hQ hM hwt' (fun _ _ _ => Iff.rfl) A (Array.replicate ops.size false) σ w.drew inv0 hc hS h
  have := HL_any (P := P) (Q := Q) (g := B.length) (fun listed a w ⟨⟨σ, ha, hb⟩, _, hcB⟩ => by
    subst ha; exact drawB_sound hs hQ hK B listed σ w hcB hb) _ _ _ _ H
  rw [hlen] at this
  exact this
end
def drawP (P : Program) (hT : Hint) (n : Nat) (ops : Array Oper) : List Nat → Fr → (Fr → Prop) → Prop
  | [], σ, K => K σ
  | i :: r, σ, K => match ops[i]? with
    | some o => fstW P hT n ops o σ (fun _ _ => False) fun σ' => drawP P hT n ops r σ' K
    | none => False
def chkP (ops : Array Oper) : List Nat → Array Bool → (Array Bool → Bool) → Bool
  | [], l, k => k l
  | i :: r, l, k => stepOk ops (.fst i) l && chkP ops r (l.setIfInBounds i true) k
def chkDP (ops : Array Oper) (A0 : List Nat) (A B : List DI) : Bool :=
  Region.noSelect ops && (A0.length + (A.length + B.length) == ops.size) &&
  certOk ops (masks ops.toList []) &&
  (List.range ops.size).all (fun t => A0.contains t || (A.map DI.ix).contains t || (A.map DI.ix).all fun h => ((masks ops.toList []).getD t 0).testBit h) &&
  chkP ops A0 (Array.replicate ops.size false) (fun l => A0.all (fun p => l.getD p false) && chkA ops (A.map DI.ix) B A l)
section
variable {P : Program} {hT : Hint} {n : Nat} {ops : Array Oper} {Q : Exit → Act → World → Prop}
theorem drawP_sound {K : Fr → Prop} {w : World} {g : Nat} {k : Array Bool → Bool} (hs : Region.noSelect ops = true) (hQ : ∀ c a w, ¬ Q (.panic c) a w)
    (hK : ∀ σ listed, K σ → Inv ops [] listed → k listed = true → wpAny P .any ops Q g listed (act ds n σ) w) :
    ∀ (l : List Nat) (listed : Array Bool) (σ : Fr), Inv ops [] listed → chkP ops l listed k = true → drawP P hT n ops l σ K → wpAny P .any ops Q (l.length + g) listed (act ds n σ) w
  | [], listed, σ, inv, hc, h => by
    rw [List.length_nil, Nat.zero_add]
    exact hK σ listed h inv hc
  | i :: r, listed, σ, inv, hc, h => by
    simp only [chkP, stepOk, Bool.and_eq_true] at hc
    obtain ⟨⟨hr, hf⟩, hc⟩ := hc
    simp only [drawP] at h
    split at h
    · rename_i o ho
      obtain ⟨v, hy, h⟩ := fstW_sound (S := fun _ => True) (fun a v h => h.elim) h
      have e : (i :: r).length + g = r.length + g + 1 := by simp; omega
      rw [e]
      refine wpAny_take ho hs hf hr (fun c a w hh => absurd hh (hQ _ _ _)) ?_ ?_ (v := v)
      · exact hy.imp (fun ⟨a, b⟩ => ⟨a, fun w => b w trivial⟩) id
      · rw [act_put]; exact drawP_sound hs hQ hK r _ _ (inv.set (by simpa using hr)) hc h
    · exact h.elim
theorem drawpre_sound {id : Nat} {S : World → Prop} {rd : Addr → Value → Prop} {A0 : List Nat} {A B : List DI} {K : Fr → World → Prop} {σ : Fr} {w : World}
    (hm : P.follows .mixedOrders = true) (hc : chkDP ops A0 A B = true) (hQ : ∀ c a w, ¬ Q (.panic c) a w) (hK : ∀ σ w, K σ w → Q .normal (act ds n σ) w)
    (hrd : ∀ a v, rd a v → ∀ w, S w → w.cell? a = some v) (hS : S w.drew)
    (h : drawP P hT n ops A0 σ fun σ => drawA P hT n ops S rd A σ (fun σ w => drawB P hT n ops B σ K w) w.drew) : (Code.region id ops true).wp P Q (act ds n σ) w := by
  simp only [chkDP, Bool.and_eq_true, beq_iff_eq] at hc
  obtain ⟨⟨⟨⟨hs, hlen⟩, hM⟩, hwt⟩, hc⟩ := hc
  have hwt' : ∀ t, t < ops.size → t ∉ A.map DI.ix → t ∉ A0 → ∀ h ∈ A.map DI.ix, ((masks ops.toList []).getD t 0).testBit h = true := by
    intro t ht htn htp x hx
    have h1 := List.all_eq_true.1 hwt t (List.mem_range.2 ht)
    simp only [Bool.or_eq_true, List.contains_iff_mem] at h1
    rcases h1 with (h1 | h1) | h1
    · exact absurd h1 htp
    · exact absurd h1 htn
    · exact List.all_eq_true.1 h1 x hx
  refine wp_region_any hm ?_
  have inv0 : Inv ops [] (Array.replicate ops.size false) := by
    refine ⟨by simp, (fun p hp => by simp at hp), fun j oj hj hl => ?_⟩
    rw [Array.getD_eq_getD_getElem?] at hl
    rcases Nat.lt_or_ge j ops.size with h' | h'
    · simp [h'] at hl
    · simp [h'] at hl
  have hfin := drawP_sound (ds := ds) (Q := Q) (g := A.length + B.length) (w := w.drew) hs hQ (fun σ' listed h' inv hk => ?_) A0 _ σ inv0 hc h
  · rw [hlen] at hfin; exact hfin
  simp only [Bool.and_eq_true] at hk
  have inv1 : Inv ops A0 listed := ⟨inv.size, fun p hp => List.all_eq_true.1 hk.1 p hp, inv.closed⟩
  have H := drawA_sound (P := P) (hT := hT) (n := n) (ops := ops) (Q := Q) (S := S) (rd := rd) (hd := A.map DI.ix) (B := B) (K := fun σ w => drawB P hT n ops B σ K w)
    (L := fun listed a w => (∃ σ, a = act ds n σ ∧ drawB P hT n ops B σ K w) ∧ (Region.ready .any ops listed).all (fun j => !(A.map DI.ix).contains j) = true ∧ chkB ops B listed = true)
    hrd hs hQ hM hwt' (fun _ _ _ => Iff.rfl) A listed σ' w.drew inv1 hk.2 hS h'
  exact HL_any (P := P) (Q := Q) (g := B.length) (fun listed a w ⟨⟨σ, ha, hb⟩, _, hcB⟩ => by
    subst ha; exact drawB_sound hs hQ hK B listed σ w hcB hb) _ _ _ _ H
end
def gInt (k : IntKind) (v : Value) (K : Int → Prop) : Prop := match v with | .int k' x => (match decide (k' = k) with | true => K x | false => False) | _ => False
def gBool (v : Value) (K : Bool → Prop) : Prop := match v with | .bool x => K x | _ => False
def gStr (v : Value) (K : ByteArray → Prop) : Prop := match v with | .string x => K x | _ => False
def gPtr (v : Value) (K : Option Addr → Prop) : Prop := match v with | .pointer x => K x | _ => False
def gAd (v : Value) (K : Addr → Prop) : Prop := match v with | .pointer (some x) => K x | _ => False
def gSlice (v : Value) (K : Option Addr → Nat → Nat → Prop) : Prop := match v with | .slice A n c => K A n c | _ => False
def gMap (v : Value) (K : Option Nat → Prop) : Prop := match v with | .map x => K x | _ => False
def gFlt (k : FloatKind) (v : Value) (K : Nat → Prop) : Prop := match v with | .float k' x => (match decide (k' = k) with | true => K x | false => False) | _ => False
def gFn (v : Value) (f : FuncId) (X : Prop) : Prop := match v with | .func (.func g) ⟨[]⟩ ⟨[]⟩ => (match Nat.beq g f with | true => X | false => False) | _ => False
theorem gFn_elim {v : Value} {f : FuncId} {X : Prop} (h : gFn v f X) : v = .func (.func f) #[] #[] ∧ X := by
  unfold gFn at h
  split at h
  · rename_i g
    split at h
    · rename_i hb
      exact ⟨by rw [Nat.eq_of_beq_eq_true hb], h⟩
    · exact h.elim
  · exact h.elim
theorem gInt_elim {k : IntKind} {v : Value} {K : Int → Prop} (h : gInt k v K) : ∃ x, v = .int k x ∧ K x := by
  unfold gInt at h
  split at h
  · rename_i k' x
    split at h
    · rename_i e; have e' := of_decide_eq_true e; subst e'; exact ⟨x, rfl, h⟩
    · exact h.elim
  · exact h.elim
theorem gBool_elim {v : Value} {K : Bool → Prop} (h : gBool v K) : ∃ x, v = .bool x ∧ K x := by
  unfold gBool at h; split at h
  · exact ⟨_, rfl, h⟩
  · exact h.elim
theorem gStr_elim {v : Value} {K : ByteArray → Prop} (h : gStr v K) : ∃ x, v = .string x ∧ K x := by
  unfold gStr at h; split at h
  · exact ⟨_, rfl, h⟩
  · exact h.elim
theorem gPtr_elim {v : Value} {K : Option Addr → Prop} (h : gPtr v K) : ∃ x, v = .pointer x ∧ K x := by
  unfold gPtr at h; split at h
  · exact ⟨_, rfl, h⟩
  · exact h.elim
theorem gAd_elim {v : Value} {K : Addr → Prop} (h : gAd v K) : ∃ x, v = .pointer (some x) ∧ K x := by
  unfold gAd at h; split at h
  · exact ⟨_, rfl, h⟩
  · exact h.elim
theorem gSlice_elim {v : Value} {K : Option Addr → Nat → Nat → Prop} (h : gSlice v K) : ∃ A n c, v = .slice A n c ∧ K A n c := by
  unfold gSlice at h; split at h
  · exact ⟨_, _, _, rfl, h⟩
  · exact h.elim
theorem gMap_elim {v : Value} {K : Option Nat → Prop} (h : gMap v K) : ∃ x, v = .map x ∧ K x := by
  unfold gMap at h; split at h
  · exact ⟨_, rfl, h⟩
  · exact h.elim
theorem gFlt_elim {k : FloatKind} {v : Value} {K : Nat → Prop} (h : gFlt k v K) : ∃ x, v = .float k x ∧ K x := by
  unfold gFlt at h
  split at h
  · split at h
    · rename_i e; have e' := of_decide_eq_true e; subst e'; exact ⟨_, rfl, h⟩
    · exact h.elim
  · exact h.elim
def ov (d : Fr) (l : List (Nat × Value)) : Fr := match l with
  | [] => d
  | (t, v) :: r => up (ov d r) t v
theorem ov_self {σ : Fr} : ∀ {l : List (Nat × Value)}, (∀ x ∈ l, σ x.1 = x.2) → ov σ l = σ
  | [], _ => rfl
  | (t, v) :: r, h => by
    show up (ov σ r) t v = σ
    rw [ov_self (fun x hx => h x (List.mem_cons_of_mem _ hx))]
    exact up_self (h (t, v) List.mem_cons_self)
theorem opK_form {P : Program} {hT : Hint} {n : Nat} {o : Oper} {σ : Fr} {K : Fr → World → Prop} {next : Act → World → Prop} {Q : Exit → Act → World → Prop}
    {w : World} {x : Next} {w' : World} (hK : ∀ v w', K (putO σ o.dst v) w' → next (act ds n (putO σ o.dst v)) w') (hr : (execOp (ev n σ) o).run P w = .ok x w') (h : opK P hT o σ K x w') :
    o.wp P (act ds n σ) w next Q := by
  unfold Oper.wp
  rw [act_eval, hr]
  cases x <;> simp only [opK] at h
  case value v => simp only [Oper.upon]; rw [act_put]; exact hK _ _ h
  case skip => simp only [Oper.upon]; rw [act_put]; exact hK _ _ h
  case enter f args =>
    simp only [Oper.upon]
    refine h.mono ?_
    intro e w'' he
    obtain ⟨v, rfl, hk⟩ := bindRet_elim he
    show next ((act ds n σ).put o.dst v) w''
    rw [act_put]; exact hK _ _ hk
theorem opW_form {P : Program} {hT : Hint} {n : Nat} {o : Oper} {σ : Fr} {K : Fr → World → Prop} {next : Act → World → Prop} {Q : Exit → Act → World → Prop}
    {w : World} (hK : ∀ v w', K (putO σ o.dst v) w' → next (act ds n (putO σ o.dst v)) w') (h : opW P hT n o σ K w) : o.wp P (act ds n σ) w next Q := by
  unfold opW at h
  split at h
  · obtain ⟨v, hv, hk⟩ := spW_sound h
    unfold Oper.wp
    rw [act_eval, hv w]
    simp only [Oper.upon]; rw [act_put]; exact hK _ _ hk
  · split at h
    · rename_i s hs
      obtain ⟨v, w', hr, hk⟩ := h
      obtain ⟨v', rfl, hk⟩ := bindRet_elim hk
      unfold Oper.wp
      rw [act_eval, rawV_run hs, goes hr]
      show next ((act ds n σ).put o.dst v) w'
      rw [act_put]; exact hK _ _ hk
    · split at h
      · rename_i s hs
        obtain ⟨v, w', hr, hk⟩ := h
        unfold Oper.wp
        rw [act_eval, rawU_run hs, goes hr]
        show next ((act ds n σ).put o.dst undef) w'
        rw [act_put]; exact hK _ _ hk
      · split at h
        · rename_i s hs
          obtain ⟨x, w', hr, hk⟩ := h
          obtain ⟨v, hx, hk2⟩ := bindRet_elim hk
          subst hx
          unfold Oper.wp
          rw [act_eval, rawX_run hs, hr]
          simp only [Oper.upon]; rw [act_put]; exact hK _ _ hk2
        · obtain ⟨x, w', hr, hk⟩ := wpS_run _ _ _ _ _ h
          exact opK_form hK hr hk
theorem effW_form {P : Program} {hT : Hint} {n : Nat} {ops : Array Oper} {o : Oper} {i : Nat} {σ : Fr} {K : Fr → World → Prop} {w : World} {Q : Exit → Act → World → Prop} {K' : Act → World → Prop}
    (hi : ops[i]? = some o) (hK : ∀ v w', K (putO σ o.dst v) w' → K' (act ds n (putO σ o.dst v)) w') (h : effW P hT n ops o σ K w) : wpOp P ops Q i K' (act ds n σ) w := by
  unfold wpOp
  simp only [hi]
  rcases guardW_sound h with ⟨hw, h⟩ | ⟨hw, h⟩
  · rw [if_pos hw]; exact .inl (opW_form hK h)
  · rw [if_neg (by rw [hw]; exact Bool.false_ne_true), act_put]; exact hK _ _ h
inductive S0 where
  | int (k : IntKind) | bool | str | ptr | ad | slice | map | flt (k : FloatKind) | any
inductive S1 where
  | sc (s : S0) | agg (l : List S0)
inductive OS where
  | one (s : S1) | tup (l : List S1)
def all0 : S0 → (Value → Prop) → Prop
  | .int k, K => ∀ x : Int, K (.int k x)
  | .bool, K => ∀ b : Bool, K (.bool b)
  | .str, K => ∀ s : ByteArray, K (.string s)
  | .ptr, K => ∀ p : Option Addr, K (.pointer p)
  | .ad, K => ∀ a : Addr, K (.pointer (some a))
  | .slice, K => ∀ (A : Option Addr) (n c : Nat), K (.slice A n c)
  | .map, K => ∀ m : Option Nat, K (.map m)
  | .flt k, K => ∀ x : Nat, K (.float k x)
  | .any, K => ∀ v : Value, K v
def q0 : S0 → Value → Prop → Prop
  | .int k, v, X => gInt k v fun _ => X
  | .bool, v, X => gBool v fun _ => X
  | .str, v, X => gStr v fun _ => X
  | .ptr, v, X => gPtr v fun _ => X
  | .ad, v, X => gAd v fun _ => X
  | .slice, v, X => gSlice v fun _ _ _ => X
  | .map, v, X => gMap v fun _ => X
  | .flt k, v, X => gFlt k v fun _ => X
  | .any, _, X => X
theorem q0_elim {s : S0} {v : Value} {X : Prop} (h : q0 s v X) : X ∧ ∀ K : Value → Prop, all0 s K → K v := by
  cases s <;> simp only [q0] at h
  case int => obtain ⟨x, e, h'⟩ := gInt_elim h; subst e; exact ⟨h', fun K k => k x⟩
  case bool => obtain ⟨x, rfl, h⟩ := gBool_elim h; exact ⟨h, fun K k => k x⟩
  case str => obtain ⟨x, rfl, h⟩ := gStr_elim h; exact ⟨h, fun K k => k x⟩
  case ptr => obtain ⟨x, rfl, h⟩ := gPtr_elim h; exact ⟨h, fun K k => k x⟩
  case ad => obtain ⟨x, rfl, h⟩ := gAd_elim h; exact ⟨h, fun K k => k x⟩
  case slice => obtain ⟨A, n, c, rfl, h⟩ := gSlice_elim h; exact ⟨h, fun K k => k A n c⟩
  case map => obtain ⟨x, rfl, h⟩ := gMap_elim h; exact ⟨h, fun K k => k x⟩
  case flt => obtain ⟨x, e, h'⟩ := gFlt_elim h; subst e; exact ⟨h', fun K k => k x⟩
  case any => exact ⟨h, fun K k => k v⟩
def all0s : List S0 → (List Value → Prop) → Prop
  | [], K => K []
  | s :: r, K => all0 s fun v => all0s r fun vs => K (v :: vs)
def q0s : List S0 → List Value → Prop → Prop
  | [], [], X => X
  | s :: r, v :: vs, X => q0 s v (q0s r vs X)
  | _, _, _ => False
theorem q0s_elim : ∀ {l : List S0} {vs : List Value} {X : Prop}, q0s l vs X → X ∧ ∀ K : List Value → Prop, all0s l K → K vs
  | [], [], X, h => ⟨h, fun K k => k⟩
  | s :: r, v :: vs, X, h => by
    obtain ⟨h1, k1⟩ := q0_elim h
    obtain ⟨h2, k2⟩ := q0s_elim h1
    exact ⟨h2, fun K k => k2 _ (k1 _ k)⟩
  | [], _ :: _, X, h => h.elim
  | _ :: _, [], X, h => h.elim
def all1 : S1 → (Value → Prop) → Prop
  | .sc s, K => all0 s K
  | .agg l, K => all0s l fun vs => K (.agg ⟨vs⟩)
def q1 : S1 → Value → Prop → Prop
  | .sc s, v, X => q0 s v X
  | .agg l, .agg ⟨vs⟩, X => q0s l vs X
  | .agg _, _, _ => False
theorem q1_elim {s : S1} {v : Value} {X : Prop} (h : q1 s v X) : X ∧ ∀ K : Value → Prop, all1 s K → K v := by
  cases s with
  | sc s => exact q0_elim h
  | agg l =>
    cases v <;> try exact h.elim
    case agg a => obtain ⟨vs⟩ := a; obtain ⟨h1, k1⟩ := q0s_elim h; exact ⟨h1, fun K k => k1 _ k⟩
def all1s : List S1 → (List Value → Prop) → Prop
  | [], K => K []
  | s :: r, K => all1 s fun v => all1s r fun vs => K (v :: vs)
def q1s : List S1 → List Value → Prop → Prop
  | [], [], X => X
  | s :: r, v :: vs, X => q1 s v (q1s r vs X)
  | _, _, _ => False
theorem q1s_elim : ∀ {l : List S1} {vs : List Value} {X : Prop}, q1s l vs X → X ∧ ∀ K : List Value → Prop, all1s l K → K vs
  | [], [], X, h => ⟨h, fun K k => k⟩
  | s :: r, v :: vs, X, h => by
    obtain ⟨h1, k1⟩ := q1_elim h
    obtain ⟨h2, k2⟩ := q1s_elim h1
    exact ⟨h2, fun K k => k2 _ (k1 _ k)⟩
  | [], _ :: _, X, h => h.elim
  | _ :: _, [], X, h => h.elim
def allO : OS → (Value → Prop) → Prop
  | .one s, K => all1 s K
  | .tup l, K => all1s l fun vs => K (.tuple ⟨vs⟩)
def qO : OS → Value → Prop → Prop
  | .one s, v, X => q1 s v X
  | .tup l, .tuple ⟨vs⟩, X => q1s l vs X
  | .tup _, _, _ => False
theorem qO_elim {s : OS} {v : Value} {X : Prop} (h : qO s v X) : X ∧ ∀ K : Value → Prop, allO s K → K v := by
  cases s with
  | one s => exact q1_elim h
  | tup l =>
    cases v <;> try exact h.elim
    case tuple a => obtain ⟨vs⟩ := a; obtain ⟨h1, k1⟩ := q1s_elim h; exact ⟨h1, fun K k => k1 _ k⟩
structure OI where
  eff : Bool
  dep : List Nat
  src : List Nat
  val : List Value → List Value → Value
structure OD where
  pre : List Nat
  effs : List Nat
  op : Nat → OI
  sh : Nat → OS
def look : List Nat → List Value → Nat → Value
  | j :: r, v :: vs, k => match Nat.beq j k with
    | true => v
    | false => look r vs k
  | _, _, _ => undef
theorem look_map {vv : Nat → Value} {k : Nat} : ∀ {l : List Nat}, k ∈ l → look l (l.map vv) k = vv k
  | j :: r, h => by
    simp only [List.map_cons, look]
    by_cases e : j = k
    · subst e; rw [Nat.beq_refl]
    · rw [nbeq_false e]
      rcases List.mem_cons.1 h with rfl | h
      · exact absurd rfl e
      · exact look_map h
def oval (d : OD) (σ0 : Fr) (vv : Nat → Value) (i : Nat) : Value := match (d.op i).eff with
  | true => vv i
  | false => (d.op i).val (d.pre.map σ0) ((d.op i).dep.map vv)
def oslots (d : OD) (ops : Array Oper) (σ0 : Fr) (vv : Nat → Value) : List Nat → List (Nat × Value)
  | [] => []
  | j :: r => match (ops[j]?).bind (·.dst) with
    | some t => (t, oval d σ0 vv j) :: oslots d ops σ0 vv r
    | none => oslots d ops σ0 vv r
def opre (σ0 : Fr) : List Nat → List (Nat × Value)
  | [] => []
  | t :: r => (t, σ0 t) :: opre σ0 r
def preAt (ops : Array Oper) (d : OD) (i : Nat) : List Nat := d.pre.filter fun t => (List.range ops.size).all fun k => match (ops[k]?).bind (·.dst) with
  | some s => (match Nat.beq s t with
    | false => true
    | true => ((masks ops.toList []).getD k 0).testBit i)
  | none => true
def dstv (o : Oper) (σ : Fr) : Value := match o.dst with
  | some t => σ t
  | none => .tuple #[]
def allE (sh : Nat → OS) (Φ : Nat → Value → World → Prop) (w : World) : List Nat → (List Value → Prop) → Prop
  | [], K => K []
  | j :: r, K => allO (sh j) fun v => Φ j v w → allE sh Φ w r fun vs => K (v :: vs)
theorem allE_elim {sh : Nat → OS} {Φ : Nat → Value → World → Prop} {w : World} {vv : Nat → Value} : ∀ {l : List Nat} {K : List Value → Prop}, (∀ j ∈ l, Φ j (vv j) w ∧ ∀ K : Value → Prop, allO (sh j) K → K (vv j)) → allE sh Φ w l K → K (l.map vv)
  | [], K, _, h => h
  | j :: r, K, hj, h => by
    obtain ⟨h1, h2⟩ := hj j List.mem_cons_self
    exact allE_elim (l := r) (K := fun vs => K (vv j :: vs)) (fun k hk => hj k (List.mem_cons_of_mem _ hk)) (h2 _ h h1)
section
variable (P : Program) (hT : Hint) (n : Nat) (ops : Array Oper) (d : OD) (σ0 : Fr) (w0 : World) (G : World → World → Prop) (Φ : Nat → Value → World → Prop)
def oblE (i : Nat) : Prop := match ops[i]? with
  | some o => ∀ (f : Fr) (w : World), G w0 w → allE d.sh Φ w (d.op i).dep fun vs =>
      effW P hT n ops o (ov f (opre σ0 (preAt ops d i) ++ oslots d ops σ0 (look (d.op i).dep vs) (d.op i).src)) (fun σ' w' => qO (d.sh i) (dstv o σ') (G w w' ∧ Φ i (dstv o σ') w')) w
  | none => False
def oblEs : List Nat → Prop
  | [] => True
  | i :: r => oblE P hT n ops d σ0 w0 G Φ i ∧ oblEs r
def allS (sh : Nat → OS) : List Nat → (List Value → Prop) → Prop
  | [], K => K []
  | j :: r, K => allO (sh j) fun v => allS sh r fun vs => K (v :: vs)
def hidP (i : Nat) : Prop := match ops[i]? with
  | some o => ∀ (f : Fr) (w : World), allS d.sh (d.op i).dep fun vs =>
      effW P hT n ops o (ov f (opre σ0 (preAt ops d i) ++ oslots d ops σ0 (look (d.op i).dep vs) (d.op i).src)) (fun σ' w' => w' = w ∧ dstv o σ' = (d.op i).val (d.pre.map σ0) vs) w
  | none => False
def hidPs : List Nat → Prop
  | [] => True
  | i :: r => (match (d.op i).eff with
    | true => hidPs r
    | false => hidP P hT n ops d σ0 i ∧ hidPs r)
def openW (K : Fr → World → Prop) (w : World) : Prop := hidPs P hT n ops d σ0 (List.range ops.size) ∧ ∃ (G : World → World → Prop) (Φ : Nat → Value → World → Prop), (∀ w, G w w) ∧ (∀ a b c, G a b → G b c → G a c) ∧ (∀ i v a b, G w a → G a b → Φ i v a → Φ i v b) ∧
  oblEs P hT n ops d σ0 w G Φ d.effs ∧ ∀ w', G w w' → allE d.sh Φ w' d.effs fun vs => K (ov σ0 (oslots d ops σ0 (look d.effs vs) (List.range ops.size))) w'
end
theorem allS_elim {sh : Nat → OS} {vv : Nat → Value} : ∀ {l : List Nat} {K : List Value → Prop}, (∀ j ∈ l, ∀ K : Value → Prop, allO (sh j) K → K (vv j)) → allS sh l K → K (l.map vv)
  | [], K, _, h => h
  | j :: r, K, hj, h => by
    exact allS_elim (l := r) (K := fun vs => K (vv j :: vs)) (fun k hk => hj k (List.mem_cons_of_mem _ hk)) (hj j List.mem_cons_self _ h)
def chkO (ops : Array Oper) (d : OD) : Bool :=
  Region.noSelect ops && certOk ops (masks ops.toList []) &&
  (List.range ops.size).all (fun i => match ops[i]? with
    | some o => o.after.toList.all (fun e => !Region.binds .any e || Nat.blt e.on i) &&
        (d.op i).dep.all (fun j => ((masks ops.toList []).getD i 0).testBit j && (d.op j).eff && Nat.blt j ops.size) &&
        (d.op i).src.all (fun j => ((masks ops.toList []).getD i 0).testBit j && Nat.blt j ops.size && (match (d.op j).eff with | true => (d.op i).dep.contains j | false => (d.op j).dep.all fun k => (d.op i).dep.contains k)) &&
        (match (d.op i).eff with | true => d.effs.contains i | false => (d.op i).dep.all fun k => d.effs.contains k) &&
        (match o.dst with
          | some t => (List.range i).all fun j => match (ops[j]?).bind (·.dst) with | some s => !Nat.beq s t | none => true
          | none => true)
    | none => false) &&
  d.effs.all (fun i => (d.op i).eff && Nat.blt i ops.size)
structure OK (ops : Array Oper) (d : OD) : Prop where
  sel : Region.noSelect ops = true
  cert : certOk ops (masks ops.toList []) = true
  low : ∀ (i : Nat) (o : Oper), ops[i]? = some o → ∀ e ∈ o.after, Region.binds .any e = true → e.on < i
  depM : ∀ i, i < ops.size → ∀ j ∈ (d.op i).dep, ((masks ops.toList []).getD i 0).testBit j = true ∧ (d.op j).eff = true ∧ j < ops.size
  srcM : ∀ i, i < ops.size → ∀ j ∈ (d.op i).src, ((masks ops.toList []).getD i 0).testBit j = true ∧ j < ops.size ∧ ((d.op j).eff = true → j ∈ (d.op i).dep) ∧ ((d.op j).eff = false → ∀ k ∈ (d.op j).dep, k ∈ (d.op i).dep)
  effM : ∀ i, i < ops.size → ((d.op i).eff = true → i ∈ d.effs) ∧ ((d.op i).eff = false → ∀ k ∈ (d.op i).dep, k ∈ d.effs)
  dstM : ∀ (i j : Nat) (oi oj : Oper) (t : Nat), j < i → ops[i]? = some oi → ops[j]? = some oj → oi.dst = some t → oj.dst ≠ some t
  effs : ∀ i ∈ d.effs, (d.op i).eff = true ∧ i < ops.size
theorem hidPs_mem {P : Program} {hT : Hint} {n : Nat} {ops : Array Oper} {d : OD} {σ0 : Fr} : ∀ {l : List Nat}, hidPs P hT n ops d σ0 l → ∀ i ∈ l, (d.op i).eff = false → hidP P hT n ops d σ0 i
  | j :: r, h, i, hi, he => by
    unfold hidPs at h
    rcases List.mem_cons.1 hi with rfl | hi
    · rw [he] at h; exact h.1
    · split at h
      · exact hidPs_mem h i hi he
      · exact hidPs_mem h.2 i hi he
theorem oblEs_mem {P : Program} {hT : Hint} {n : Nat} {ops : Array Oper} {d : OD} {σ0 : Fr} {w0 : World} {G : World → World → Prop} {Φ : Nat → Value → World → Prop} : ∀ {l : List Nat}, oblEs P hT n ops d σ0 w0 G Φ l → ∀ i ∈ l, oblE P hT n ops d σ0 w0 G Φ i
  | j :: r, h, i, hi => by
    rcases List.mem_cons.1 hi with rfl | hi
    · exact h.1
    · exact oblEs_mem h.2 i hi
theorem ok_of {ops : Array Oper} {d : OD} (h : chkO ops d = true) : OK ops d := by
  simp only [chkO, Bool.and_eq_true] at h
  obtain ⟨⟨⟨h1, h2⟩, h3⟩, h4⟩ := h
  have h3 := List.all_eq_true.1 h3
  have h4 := List.all_eq_true.1 h4
  have row : ∀ i o, ops[i]? = some o → _ := fun i o ho => by
    have := h3 i (List.mem_range.2 (Array.getElem?_eq_some_iff.1 ho).1)
    rw [ho] at this
    simp only [Bool.and_eq_true] at this
    exact this
  have get : ∀ i, i < ops.size → ∃ o, ops[i]? = some o := fun i hi => ⟨_, Array.getElem?_eq_getElem hi⟩
  refine ⟨h1, h2, ?_, ?_, ?_, ?_, ?_, ?_⟩
  · intro i o ho e he hb
    have := List.all_eq_true.1 (row i o ho).1.1.1.1 e (by simpa using he)
    rw [hb] at this
    simpa using this
  · intro i hi j hj
    obtain ⟨o, ho⟩ := get i hi
    have := List.all_eq_true.1 (row i o ho).1.1.1.2 j hj
    simp only [Bool.and_eq_true] at this
    exact ⟨this.1.1, this.1.2, Nat.blt_eq.mp this.2⟩
  · intro i hi j hj
    obtain ⟨o, ho⟩ := get i hi
    have := List.all_eq_true.1 (row i o ho).1.1.2 j hj
    simp only [Bool.and_eq_true] at this
    obtain ⟨⟨a, b⟩, c⟩ := this
    refine ⟨a, Nat.blt_eq.mp b, fun e => ?_, fun e => ?_⟩
    · rw [e] at c; simpa using c
    · rw [e] at c; intro k hk; simpa using List.all_eq_true.1 c k hk
  · intro i hi
    obtain ⟨o, ho⟩ := get i hi
    have c := (row i o ho).1.2
    refine ⟨fun e => ?_, fun e => ?_⟩
    · rw [e] at c; simpa using c
    · rw [e] at c; intro k hk; simpa using List.all_eq_true.1 c k hk
  · intro i j oi oj t hj hi hoj ht he
    have c := (row i oi hi).2
    rw [ht] at c
    have := List.all_eq_true.1 c j (List.mem_range.2 hj)
    rw [hoj] at this
    simp [he] at this
  · intro i hi
    have := h4 i hi
    simp only [Bool.and_eq_true] at this
    exact ⟨this.1, Nat.blt_eq.mp this.2⟩
theorem filter_le {α : Type} {p q : α → Bool} (h : ∀ x, q x = true → p x = true) : ∀ l : List α, (l.filter q).length ≤ (l.filter p).length
  | [] => by simp
  | a :: l => by
    have ih := filter_le h l
    rw [List.filter_cons, List.filter_cons]
    by_cases hq : q a = true
    · rw [if_pos hq, if_pos (h a hq)]; simp; exact ih
    · rw [if_neg hq]; split
      · simp; omega
      · exact ih
theorem filter_lt {α : Type} {p q : α → Bool} (h : ∀ x, q x = true → p x = true) : ∀ {l : List α} {x : α}, x ∈ l → p x = true → q x = false → (l.filter q).length < (l.filter p).length
  | a :: l, x, hx, hp, hq => by
    have ih := filter_le h l
    rw [List.filter_cons, List.filter_cons]
    rcases List.mem_cons.1 hx with rfl | hx
    · rw [if_neg (by rw [hq]; exact Bool.false_ne_true), if_pos hp]; simp; omega
    · have ih := filter_lt h hx hp hq
      by_cases hqa : q a = true
      · rw [if_pos hqa, if_pos (h a hqa)]; simp; exact ih
      · rw [if_neg hqa]; split
        · simp; omega
        · exact ih
def left (ops : Array Oper) (listed : Array Bool) : Nat := ((List.range ops.size).filter fun i => !listed.getD i false).length
theorem left_set {ops : Array Oper} {listed : Array Bool} {i : Nat} (hs : listed.size = ops.size) (hi : i < ops.size) (hl : listed.getD i false = false) : left ops (listed.setIfInBounds i true) < left ops listed := by
  refine filter_lt (fun x hx => ?_) (List.mem_range.2 hi) (by simp only [hl]; rfl) ?_
  · simp only [Bool.not_eq_true'] at hx ⊢
    cases h : listed.getD x false with
    | false => rfl
    | true => rw [getD_set_true h] at hx; cases hx
  · have : (listed.setIfInBounds i true).getD i false = true := by simp [hs, hi]
    simp only [this]; rfl
theorem all_listed {ops : Array Oper} {d : OD} (ok : OK ops d) {listed : Array Bool} (hs : listed.size = ops.size) (hr : Region.ready .any ops listed = []) : ∀ i, i < ops.size → listed.getD i false = true := by
  intro i
  induction i using Nat.strongRecOn with
  | _ i ih =>
    intro hi
    cases h : listed.getD i false with
    | true => rfl
    | false =>
      have : i ∈ Region.ready .any ops listed := by
        refine mem_ready.2 ⟨?_, ops[i], Array.getElem?_eq_getElem hi, fun e he hb => ?_⟩
        · have : i < listed.size := by omega
          simp [this] at h ⊢; exact h
        · have := ok.low i _ (Array.getElem?_eq_getElem hi) e he hb
          exact ih e.on this (by omega)
      rw [hr] at this; cases this
theorem mem_opre {σ0 : Fr} {x : Nat × Value} : ∀ {l : List Nat}, x ∈ opre σ0 l → x.1 ∈ l ∧ x.2 = σ0 x.1
  | t :: r, h => by
    rcases List.mem_cons.1 h with rfl | h
    · exact ⟨List.mem_cons_self, rfl⟩
    · exact ⟨List.mem_cons_of_mem _ (mem_opre h).1, (mem_opre h).2⟩
theorem mem_oslots {d : OD} {ops : Array Oper} {σ0 : Fr} {vv : Nat → Value} {x : Nat × Value} : ∀ {l : List Nat}, x ∈ oslots d ops σ0 vv l → ∃ j ∈ l, ∃ o, ops[j]? = some o ∧ o.dst = some x.1 ∧ x.2 = oval d σ0 vv j
  | j :: r, h => by
    unfold oslots at h
    split at h
    · rename_i t ht
      rcases List.mem_cons.1 h with rfl | h
      · cases ho : ops[j]? with
        | none => rw [ho] at ht; cases ht
        | some o => rw [ho] at ht; exact ⟨j, List.mem_cons_self, o, ho, ht, rfl⟩
      · obtain ⟨k, hk, r⟩ := mem_oslots h
        exact ⟨k, List.mem_cons_of_mem _ hk, r⟩
    · obtain ⟨k, hk, r⟩ := mem_oslots h
      exact ⟨k, List.mem_cons_of_mem _ hk, r⟩
theorem preAt_mem {ops : Array Oper} {d : OD} {i t : Nat} (h : t ∈ preAt ops d i) {k : Nat} {o : Oper} (ho : ops[k]? = some o) (ht : o.dst = some t) : ((masks ops.toList []).getD k 0).testBit i = true := by
  have := List.all_eq_true.1 (List.mem_filter.1 h).2 k (List.mem_range.2 (Array.getElem?_eq_some_iff.1 ho).1)
  rw [ho] at this
  simp only [Option.bind_some, ht, Nat.beq_refl] at this
  exact this
structure St (ops : Array Oper) (d : OD) (σ0 : Fr) (w0 : World) (G : World → World → Prop) (Φ : Nat → Value → World → Prop) (listed : Array Bool) (vv : Nat → Value) (σ : Fr) (w : World) : Prop where
  a : ∀ (i : Nat) (o : Oper) (t : Nat), ops[i]? = some o → listed.getD i false = true → o.dst = some t → σ t = oval d σ0 vv i
  b : ∀ t : Nat, (∀ (i : Nat) (o : Oper), ops[i]? = some o → listed.getD i false = true → o.dst ≠ some t) → σ t = σ0 t
  c : ∀ i, i < ops.size → listed.getD i false = true → (d.op i).eff = true → Φ i (vv i) w ∧ ∀ K : Value → Prop, allO (d.sh i) K → K (vv i)
  g : G w0 w
theorem oval_look {ops : Array Oper} {d : OD} (ok : OK ops d) {σ0 : Fr} {vv : Nat → Value} {i j : Nat} (hi : i < ops.size) (hj : j ∈ (d.op i).src) :
    oval d σ0 (look (d.op i).dep ((d.op i).dep.map vv)) j = oval d σ0 vv j := by
  obtain ⟨_, hjs, h1, h2⟩ := ok.srcM i hi j hj
  unfold oval
  cases he : (d.op j).eff with
  | true => exact look_map (h1 he)
  | false => simp only; congr 1; exact List.map_congr_left fun k hk => look_map (h2 he k hk)
theorem St.frame {ops : Array Oper} {d : OD} {σ0 : Fr} {w0 : World} {G : World → World → Prop} {Φ : Nat → Value → World → Prop} {listed : Array Bool} {vv : Nat → Value} {σ : Fr} {w : World} (ok : OK ops d)
    (st : St ops d σ0 w0 G Φ listed vv σ w) (inv : Inv ops [] listed) {i : Nat} (hi : i < ops.size) (hr : i ∈ Region.ready .any ops listed) :
    ov σ (opre σ0 (preAt ops d i) ++ oslots d ops σ0 (look (d.op i).dep ((d.op i).dep.map vv)) (d.op i).src) = σ := by
  refine ov_self fun x hx => ?_
  rcases List.mem_append.1 hx with hx | hx
  · obtain ⟨h1, h2⟩ := mem_opre hx
    rw [h2]
    refine st.b _ fun j o ho hl ht => ?_
    have q := preAt_mem h1 ho ht
    have := (wt_listed ok.cert inv i j (Array.getElem?_eq_some_iff.1 ho).1 q).1 hl
    obtain ⟨h0, _⟩ := mem_ready.1 hr
    rw [getD_ft h0] at this; cases this
  · obtain ⟨j, hj, o, ho, ht, hv⟩ := mem_oslots hx
    rw [hv, oval_look ok hi hj]
    exact st.a j o _ ho ((wt_listed ok.cert inv j i hi (ok.srcM i hi j hj).1).2 hr) ht
theorem putO_dst {o : Oper} {σ : Fr} {v : Value} {t : Nat} (h : o.dst = some t) : putO σ o.dst v t = v := by
  rw [h]; show (bif Nat.beq t t then v else σ t) = v; rw [Nat.beq_refl]; rfl
theorem putO_ne {o : Oper} {σ : Fr} {v : Value} {t : Nat} (h : o.dst ≠ some t) : putO σ o.dst v t = σ t := by
  cases hd : o.dst with
  | none => rfl
  | some s =>
    show (bif Nat.beq t s then v else σ t) = σ t
    rw [nbeq_false (fun e => h (by rw [hd, e]))]; rfl
theorem open_step {P : Program} {hT : Hint} {n : Nat} {ops : Array Oper} {d : OD} {σ0 : Fr} {w0 : World} {G : World → World → Prop} {Φ : Nat → Value → World → Prop} {Q : Exit → Act → World → Prop} {K : Fr → World → Prop}
    (ok : OK ops d) (hhid : ∀ i, i < ops.size → (d.op i).eff = false → hidP P hT n ops d σ0 i)
    (gr : ∀ w, G w w) (gt : ∀ a b c, G a b → G b c → G a c) (st : ∀ i v a b, G w0 a → G a b → Φ i v a → Φ i v b) (hE : ∀ i ∈ d.effs, oblE P hT n ops d σ0 w0 G Φ i)
    (hK : ∀ σ w, K σ w → Q .normal (act ds n σ) w) (hF : ∀ w', G w0 w' → allE d.sh Φ w' d.effs fun vs => K (ov σ0 (oslots d ops σ0 (look d.effs vs) (List.range ops.size))) w') :
    ∀ (f : Nat) (listed : Array Bool) (vv : Nat → Value) (σ : Fr) (w : World), Inv ops [] listed → St ops d σ0 w0 G Φ listed vv σ w → left ops listed ≤ f → wpAny P .any ops Q f listed (act ds n σ) w := by
  have fin : ∀ (listed : Array Bool) (vv : Nat → Value) (σ : Fr) (w : World), Inv ops [] listed → St ops d σ0 w0 G Φ listed vv σ w → Region.ready .any ops listed = [] → Q .normal (act ds n σ) w := by
    intro listed vv σ w inv s hr
    have hall := all_listed ok inv.size hr
    have h1 := allE_elim (vv := vv) (l := d.effs) (fun j hj => s.c j (ok.effs j hj).2 (hall j (ok.effs j hj).2) (ok.effs j hj).1) (hF w s.g)
    have e : ov σ0 (oslots d ops σ0 (look d.effs (d.effs.map vv)) (List.range ops.size)) = σ := by
      have hov : ∀ (l : List Nat), (∀ j ∈ l, j < ops.size) → ∀ t, ov σ0 (oslots d ops σ0 (look d.effs (d.effs.map vv)) l) t = if (∃ j ∈ l, ∃ o, ops[j]? = some o ∧ o.dst = some t) then σ t else σ0 t := by
        intro l hl t
        induction l with
        | nil => simp [oslots, ov]
        | cons j r ih =>
          have ih := ih fun k hk => hl k (List.mem_cons_of_mem _ hk)
          have hj := hl j List.mem_cons_self
          have ho : ops[j]? = some ops[j] := Array.getElem?_eq_getElem hj
          unfold oslots
          cases hd : (ops[j]).dst with
          | none =>
            have : (ops[j]?).bind (·.dst) = none := by rw [ho]; exact hd
            rw [this]
            simp only
            rw [ih]
            congr 1
            apply propext
            constructor
            · rintro ⟨k, hk, r⟩; exact ⟨k, List.mem_cons_of_mem _ hk, r⟩
            · rintro ⟨k, hk, o, ho2, ht⟩
              rcases List.mem_cons.1 hk with rfl | hk
              · rw [ho] at ho2; injection ho2 with ho2; subst ho2; rw [hd] at ht; cases ht
              · exact ⟨k, hk, o, ho2, ht⟩
          | some s' =>
            have : (ops[j]?).bind (·.dst) = some s' := by rw [ho]; exact hd
            rw [this]
            simp only
            have hval : oval d σ0 (look d.effs (d.effs.map vv)) j = σ s' := by
              rw [s.a j _ s' ho (hall j hj) hd]
              unfold oval
              cases he : (d.op j).eff with
              | true => exact look_map ((ok.effM j hj).1 he)
              | false => simp only; congr 1; exact List.map_congr_left fun k hk => look_map ((ok.effM j hj).2 he k hk)
            show (bif Nat.beq t s' then _ else ov σ0 (oslots d ops σ0 (look d.effs (d.effs.map vv)) r) t) = _
            by_cases hts : t = s'
            · subst hts
              rw [Nat.beq_refl, if_pos ⟨j, List.mem_cons_self, _, ho, hd⟩]
              exact hval
            · rw [nbeq_false hts]
              show ov σ0 (oslots d ops σ0 (look d.effs (d.effs.map vv)) r) t = _
              rw [ih]
              congr 1
              apply propext
              constructor
              · rintro ⟨k, hk, r⟩; exact ⟨k, List.mem_cons_of_mem _ hk, r⟩
              · rintro ⟨k, hk, o, ho2, ht⟩
                rcases List.mem_cons.1 hk with rfl | hk
                · rw [ho] at ho2; injection ho2 with ho2; subst ho2; rw [hd] at ht; injection ht with ht; exact absurd ht.symm hts
                · exact ⟨k, hk, o, ho2, ht⟩
      funext t
      rw [hov _ (fun j hj => List.mem_range.1 hj) t]
      split
      · rfl
      · rename_i hn
        exact (s.b t fun i o ho _ ht => hn ⟨i, List.mem_range.2 (Array.getElem?_eq_some_iff.1 ho).1, o, ho, ht⟩).symm
    rw [e] at h1
    exact hK σ w h1
  intro f
  induction f with
  | zero =>
    intro listed vv σ w inv s hl
    have hr : Region.ready .any ops listed = [] := by
      rcases hrd : Region.ready .any ops listed with _ | ⟨i, r⟩
      · rfl
      · exfalso
        have hi : i ∈ Region.ready .any ops listed := by rw [hrd]; exact List.mem_cons_self
        obtain ⟨h0, o, ho, _⟩ := mem_ready.1 hi
        have := left_set inv.size (Array.getElem?_eq_some_iff.1 ho).1 (getD_ft h0)
        omega
    exact wpAny_done hr (fin listed vv σ w inv s hr) 0
  | succ f ih =>
    intro listed vv σ w inv s hl
    refine ⟨fun hr => fin listed vv σ w inv s hr, fun i hi => ?_⟩
    obtain ⟨h0, o, ho, _⟩ := mem_ready.1 hi
    have his := (Array.getElem?_eq_some_iff.1 ho).1
    have hun := getD_ft h0
    have hlt := left_set inv.size his hun
    have hdep : ∀ j ∈ (d.op i).dep, Φ j (vv j) w ∧ ∀ K : Value → Prop, allO (d.sh j) K → K (vv j) := fun j hj => by
      obtain ⟨h1, h2, h3⟩ := ok.depM i his j hj
      exact s.c j h3 ((wt_listed ok.cert inv j i his h1).2 hi) h2
    have hfr := s.frame ok inv his hi
    have go : ∀ (v : Value) (w' : World) (vv' : Nat → Value), (∀ k, k ≠ i → vv' k = vv k) → (∀ t, o.dst = some t → v = oval d σ0 vv' i) → ((d.op i).eff = true → Φ i (vv' i) w' ∧ ∀ K : Value → Prop, allO (d.sh i) K → K (vv' i)) → G w w' →
        wpAny P .any ops Q f (listed.setIfInBounds i true) (act ds n (putO σ o.dst v)) w' := by
      intro v w' vv' hvv hv hc hg
      refine ih _ vv' _ _ (inv.set hi) ⟨?_, ?_, ?_, gt _ _ _ s.g hg⟩ (by omega)
      · intro j oj t hoj hlj ht
        by_cases hji : j = i
        · subst hji
          have : oj = o := Option.some.inj (hoj.symm.trans ho)
          subst this
          rw [putO_dst ht]; exact hv t ht
        · rw [getD_set_ne false (Ne.symm hji)] at hlj
          have hjs := (Array.getElem?_eq_some_iff.1 hoj).1
          have hne : o.dst ≠ some t := fun he => by
            rcases Nat.lt_or_gt_of_ne hji with h' | h'
            · exact ok.dstM i j o oj t h' ho hoj he ht
            · exact ok.dstM j i oj o t h' hoj ho ht he
          rw [putO_ne hne, s.a j oj t hoj hlj ht]
          unfold oval
          cases he : (d.op j).eff with
          | true => exact (hvv j hji).symm
          | false =>
            simp only; congr 1
            refine List.map_congr_left fun k hk => (hvv k fun hki => ?_).symm
            subst hki
            have := (wt_listed ok.cert inv k j hjs (ok.depM j hjs k hk).1).1 hlj
            rw [hun] at this; cases this
      · intro t ht
        have hne : o.dst ≠ some t := ht i o ho (by simp [inv.size, his])
        rw [putO_ne hne]
        exact s.b t fun j oj hoj hlj => ht j oj hoj (getD_set_true hlj)
      · intro j hjs hlj he
        by_cases hji : j = i
        · subst hji; exact hc he
        · rw [getD_set_ne false (Ne.symm hji)] at hlj
          obtain ⟨h1, h2⟩ := s.c j hjs hlj he
          rw [hvv j hji]
          exact ⟨st j _ _ _ s.g hg h1, h2⟩
    cases he : (d.op i).eff with
    | true =>
      have hob := hE i ((ok.effM i his).1 he)
      unfold oblE at hob
      rw [ho] at hob
      have h1 := allE_elim (vv := vv) hdep (hob σ w s.g)
      rw [hfr] at h1
      refine effW_form ho (fun v w' hk => ?_) h1
      obtain ⟨⟨hg, hphi⟩, hsh⟩ := qO_elim hk
      refine go v w' (fun k => if k = i then dstv o (putO σ o.dst v) else vv k) (fun k hk => by rw [if_neg hk]) (fun t ht => ?_) (fun _ => ?_) hg
      · unfold oval
        rw [he]
        simp only [if_true]
        unfold dstv
        rw [ht]
        have := putO_dst (σ := σ) (v := v) ht
        rw [ht] at this
        exact this.symm
      · simp only [if_true]
        exact ⟨hphi, hsh⟩
    | false =>
      have hob := hhid i his he
      unfold hidP at hob
      rw [ho] at hob
      have h1 := allS_elim (vv := vv) (fun j hj => (hdep j hj).2) (hob σ w)
      rw [hfr] at h1
      refine effW_form ho (fun v w' hk => ?_) h1
      obtain ⟨rfl, hk⟩ := hk
      refine go v w' vv (fun _ _ => rfl) (fun t ht => ?_) (fun h => by rw [he] at h; cases h) (gr _)
      unfold oval
      rw [he]
      unfold dstv at hk
      rw [ht] at hk
      simp only at hk
      have := putO_dst (σ := σ) (v := v) ht
      rw [ht] at this
      rw [this] at hk
      exact hk
theorem open_sound {P : Program} {hT : Hint} {n id : Nat} {ops : Array Oper} {d : OD} {σ : Fr} {w : World} {Q : Exit → Act → World → Prop} {K : Fr → World → Prop} (hm : P.follows .mixedOrders = true) (hc : chkO ops d = true)
    (hK : ∀ σ w, K σ w → Q .normal (act ds n σ) w) (h : openW P hT n ops d σ K w.drew) : (Code.region id ops true).wp P Q (act ds n σ) w := by
  refine wp_region_any hm ?_
  obtain ⟨hh, G, Φ, gr, gt, st, hE, hF⟩ := h
  have ok := ok_of hc
  have h0 : ∀ i, (Array.replicate ops.size false).getD i false = false := by
    intro i
    rcases Nat.lt_or_ge i ops.size with h' | h' <;> simp [h']
  refine open_step ok (fun i hi he => hidPs_mem hh i (List.mem_range.2 hi) he) gr gt st (fun i hi => oblEs_mem hE i hi) hK hF ops.size _ (fun _ => undef) σ w.drew ⟨by simp, (fun p hp => by simp at hp), fun j oj hj hl => ?_⟩ ⟨fun i o t ho hl => ?_, fun t _ => rfl, fun i hi hl => ?_, gr _⟩ ?_
  · rw [h0] at hl; cases hl
  · rw [h0] at hl; cases hl
  · rw [h0] at hl; cases hl
  · unfold left
    have := List.length_filter_le (fun i => !(Array.replicate ops.size false).getD i false) (List.range ops.size)
    rwa [List.length_range] at this
def upB (ls : Nat → Bool) (i : Nat) : Nat → Bool := fun k => bif Nat.beq k i then true else ls k
def upV (vv : Nat → Value) (i : Nat) (v : Value) : Nat → Value := fun k => bif Nat.beq k i then v else vv k
section
variable (P : Program) (hT : Hint) (n : Nat) (ops : Array Oper) (d : OD) (σ0 : Fr) (I : (Nat → Bool) → (Nat → Value) → World → Prop)
def oblI (i : Nat) : Prop := match ops[i]? with
  | some o => ∀ (f : Fr) (ls : Nat → Bool) (vv : Nat → Value) (w : World), ls i = false → I ls vv w → allE d.sh (fun j v _ => ls j = true ∧ vv j = v) w (d.op i).dep fun vs =>
      effW P hT n ops o (ov f (opre σ0 (preAt ops d i) ++ oslots d ops σ0 (look (d.op i).dep vs) (d.op i).src)) (fun σ' w' => qO (d.sh i) (dstv o σ') (I (upB ls i) (upV vv i (dstv o σ')) w')) w
  | none => False
def oblIs : List Nat → Prop
  | [] => True
  | i :: r => oblI P hT n ops d σ0 I i ∧ oblIs r
def openI (K : Fr → World → Prop) (w : World) : Prop := hidPs P hT n ops d σ0 (List.range ops.size) ∧ ∃ (I : (Nat → Bool) → (Nat → Value) → World → Prop), I (fun _ => false) (fun _ => undef) w ∧
  oblIs P hT n ops d σ0 I d.effs ∧ ∀ ls vv w', I ls vv w' → allE d.sh (fun j v _ => ls j = true ∧ vv j = v) w' d.effs fun vs => K (ov σ0 (oslots d ops σ0 (look d.effs vs) (List.range ops.size))) w'
end
theorem oblIs_mem {P : Program} {hT : Hint} {n : Nat} {ops : Array Oper} {d : OD} {σ0 : Fr} {I : (Nat → Bool) → (Nat → Value) → World → Prop} : ∀ {l : List Nat}, oblIs P hT n ops d σ0 I l → ∀ i ∈ l, oblI P hT n ops d σ0 I i
  | j :: r, h, i, hi => by
    rcases List.mem_cons.1 hi with rfl | hi
    · exact h.1
    · exact oblIs_mem h.2 i hi
def lsE (d : OD) (listed : Array Bool) : Nat → Bool := fun k => listed.getD k false && (d.op k).eff
theorem lsE_eff {d : OD} {listed : Array Bool} {i : Nat} (hs : i < listed.size) (he : (d.op i).eff = true) : lsE d (listed.setIfInBounds i true) = upB (lsE d listed) i := by
  funext k
  unfold lsE upB
  by_cases h : k = i
  · subst h; rw [Nat.beq_refl, he]; simp [hs]
  · rw [nbeq_false h, getD_set_ne false (Ne.symm h)]; rfl
theorem lsE_hid {d : OD} {listed : Array Bool} {i : Nat} (he : (d.op i).eff = false) : lsE d (listed.setIfInBounds i true) = lsE d listed := by
  funext k
  unfold lsE
  by_cases h : k = i
  · subst h; rw [he]; simp
  · rw [getD_set_ne false (Ne.symm h)]
structure StI (ops : Array Oper) (d : OD) (σ0 : Fr) (I : (Nat → Bool) → (Nat → Value) → World → Prop) (listed : Array Bool) (vv : Nat → Value) (σ : Fr) (w : World) : Prop where
  a : ∀ (i : Nat) (o : Oper) (t : Nat), ops[i]? = some o → listed.getD i false = true → o.dst = some t → σ t = oval d σ0 vv i
  b : ∀ t : Nat, (∀ (i : Nat) (o : Oper), ops[i]? = some o → listed.getD i false = true → o.dst ≠ some t) → σ t = σ0 t
  c : ∀ i, i < ops.size → listed.getD i false = true → (d.op i).eff = true → ∀ K : Value → Prop, allO (d.sh i) K → K (vv i)
  g : I (lsE d listed) vv w
theorem StI.frame {ops : Array Oper} {d : OD} {σ0 : Fr} {I : (Nat → Bool) → (Nat → Value) → World → Prop} {listed : Array Bool} {vv : Nat → Value} {σ : Fr} {w : World} (ok : OK ops d)
    (st : StI ops d σ0 I listed vv σ w) (inv : Inv ops [] listed) {i : Nat} (hi : i < ops.size) (hr : i ∈ Region.ready .any ops listed) :
    ov σ (opre σ0 (preAt ops d i) ++ oslots d ops σ0 (look (d.op i).dep ((d.op i).dep.map vv)) (d.op i).src) = σ := by
  refine ov_self fun x hx => ?_
  rcases List.mem_append.1 hx with hx | hx
  · obtain ⟨h1, h2⟩ := mem_opre hx
    rw [h2]
    refine st.b _ fun j o ho hl ht => ?_
    have q := preAt_mem h1 ho ht
    have := (wt_listed ok.cert inv i j (Array.getElem?_eq_some_iff.1 ho).1 q).1 hl
    obtain ⟨h0, _⟩ := mem_ready.1 hr
    rw [getD_ft h0] at this; cases this
  · obtain ⟨j, hj, o, ho, ht, hv⟩ := mem_oslots hx
    rw [hv, oval_look ok hi hj]
    exact st.a j o _ ho ((wt_listed ok.cert inv j i hi (ok.srcM i hi j hj).1).2 hr) ht
theorem openI_step {P : Program} {hT : Hint} {n : Nat} {ops : Array Oper} {d : OD} {σ0 : Fr} {I : (Nat → Bool) → (Nat → Value) → World → Prop} {Q : Exit → Act → World → Prop} {K : Fr → World → Prop}
    (ok : OK ops d) (hhid : ∀ i, i < ops.size → (d.op i).eff = false → hidP P hT n ops d σ0 i)
    (hE : ∀ i ∈ d.effs, oblI P hT n ops d σ0 I i)
    (hK : ∀ σ w, K σ w → Q .normal (act ds n σ) w) (hF : ∀ ls vv w', I ls vv w' → allE d.sh (fun j v _ => ls j = true ∧ vv j = v) w' d.effs fun vs => K (ov σ0 (oslots d ops σ0 (look d.effs vs) (List.range ops.size))) w') :
    ∀ (f : Nat) (listed : Array Bool) (vv : Nat → Value) (σ : Fr) (w : World), Inv ops [] listed → StI ops d σ0 I listed vv σ w → left ops listed ≤ f → wpAny P .any ops Q f listed (act ds n σ) w := by
  have fin : ∀ (listed : Array Bool) (vv : Nat → Value) (σ : Fr) (w : World), Inv ops [] listed → StI ops d σ0 I listed vv σ w → Region.ready .any ops listed = [] → Q .normal (act ds n σ) w := by
    intro listed vv σ w inv s hr
    have hall := all_listed ok inv.size hr
    have h1 := allE_elim (vv := vv) (l := d.effs) (fun j hj => ⟨⟨by unfold lsE; rw [hall j (ok.effs j hj).2, (ok.effs j hj).1]; rfl, rfl⟩, s.c j (ok.effs j hj).2 (hall j (ok.effs j hj).2) (ok.effs j hj).1⟩) (hF _ _ w s.g)
    have e : ov σ0 (oslots d ops σ0 (look d.effs (d.effs.map vv)) (List.range ops.size)) = σ := by
      have hov : ∀ (l : List Nat), (∀ j ∈ l, j < ops.size) → ∀ t, ov σ0 (oslots d ops σ0 (look d.effs (d.effs.map vv)) l) t = if (∃ j ∈ l, ∃ o, ops[j]? = some o ∧ o.dst = some t) then σ t else σ0 t := by
        intro l hl t
        induction l with
        | nil => simp [oslots, ov]
        | cons j r ih =>
          have ih := ih fun k hk => hl k (List.mem_cons_of_mem _ hk)
          have hj := hl j List.mem_cons_self
          have ho : ops[j]? = some ops[j] := Array.getElem?_eq_getElem hj
          unfold oslots
          cases hd : (ops[j]).dst with
          | none =>
            have : (ops[j]?).bind (·.dst) = none := by rw [ho]; exact hd
            rw [this]
            simp only
            rw [ih]
            congr 1
            apply propext
            constructor
            · rintro ⟨k, hk, r⟩; exact ⟨k, List.mem_cons_of_mem _ hk, r⟩
            · rintro ⟨k, hk, o, ho2, ht⟩
              rcases List.mem_cons.1 hk with rfl | hk
              · rw [ho] at ho2; injection ho2 with ho2; subst ho2; rw [hd] at ht; cases ht
              · exact ⟨k, hk, o, ho2, ht⟩
          | some s' =>
            have : (ops[j]?).bind (·.dst) = some s' := by rw [ho]; exact hd
            rw [this]
            simp only
            have hval : oval d σ0 (look d.effs (d.effs.map vv)) j = σ s' := by
              rw [s.a j _ s' ho (hall j hj) hd]
              unfold oval
              cases he : (d.op j).eff with
              | true => exact look_map ((ok.effM j hj).1 he)
              | false => simp only; congr 1; exact List.map_congr_left fun k hk => look_map ((ok.effM j hj).2 he k hk)
            show (bif Nat.beq t s' then _ else ov σ0 (oslots d ops σ0 (look d.effs (d.effs.map vv)) r) t) = _
            by_cases hts : t = s'
            · subst hts
              rw [Nat.beq_refl, if_pos ⟨j, List.mem_cons_self, _, ho, hd⟩]
              exact hval
            · rw [nbeq_false hts]
              show ov σ0 (oslots d ops σ0 (look d.effs (d.effs.map vv)) r) t = _
              rw [ih]
              congr 1
              apply propext
              constructor
              · rintro ⟨k, hk, r⟩; exact ⟨k, List.mem_cons_of_mem _ hk, r⟩
              · rintro ⟨k, hk, o, ho2, ht⟩
                rcases List.mem_cons.1 hk with rfl | hk
                · rw [ho] at ho2; injection ho2 with ho2; subst ho2; rw [hd] at ht; injection ht with ht; exact absurd ht.symm hts
                · exact ⟨k, hk, o, ho2, ht⟩
      funext t
      rw [hov _ (fun j hj => List.mem_range.1 hj) t]
      split
      · rfl
      · rename_i hn
        exact (s.b t fun i o ho _ ht => hn ⟨i, List.mem_range.2 (Array.getElem?_eq_some_iff.1 ho).1, o, ho, ht⟩).symm
    rw [e] at h1
    exact hK σ w h1
  intro f
  induction f with
  | zero =>
    intro listed vv σ w inv s hl
    have hr : Region.ready .any ops listed = [] := by
      rcases hrd : Region.ready .any ops listed with _ | ⟨i, r⟩
      · rfl
      · exfalso
        have hi : i ∈ Region.ready .any ops listed := by rw [hrd]; exact List.mem_cons_self
        obtain ⟨h0, o, ho, _⟩ := mem_ready.1 hi
        have := left_set inv.size (Array.getElem?_eq_some_iff.1 ho).1 (getD_ft h0)
        omega
    exact wpAny_done hr (fin listed vv σ w inv s hr) 0
  | succ f ih =>
    intro listed vv σ w inv s hl
    refine ⟨fun hr => fin listed vv σ w inv s hr, fun i hi => ?_⟩
    obtain ⟨h0, o, ho, _⟩ := mem_ready.1 hi
    have his := (Array.getElem?_eq_some_iff.1 ho).1
    have hun := getD_ft h0
    have hlt := left_set inv.size his hun
    have hdep : ∀ j ∈ (d.op i).dep, (lsE d listed j = true ∧ vv j = vv j) ∧ ∀ K : Value → Prop, allO (d.sh j) K → K (vv j) := fun j hj => by
      obtain ⟨h1, h2, h3⟩ := ok.depM i his j hj
      have h4 := (wt_listed ok.cert inv j i his h1).2 hi
      exact ⟨⟨by unfold lsE; rw [h4, h2]; rfl, rfl⟩, s.c j h3 h4 h2⟩
    have hfr := s.frame ok inv his hi
    have go : ∀ (v : Value) (w' : World) (vv' : Nat → Value), (∀ k, k ≠ i → vv' k = vv k) → (∀ t, o.dst = some t → v = oval d σ0 vv' i) → ((d.op i).eff = true → ∀ K : Value → Prop, allO (d.sh i) K → K (vv' i)) → I (lsE d (listed.setIfInBounds i true)) vv' w' →
        wpAny P .any ops Q f (listed.setIfInBounds i true) (act ds n (putO σ o.dst v)) w' := by
      intro v w' vv' hvv hv hc hg
      refine ih _ vv' _ _ (inv.set hi) ⟨?_, ?_, ?_, hg⟩ (by omega)
      · intro j oj t hoj hlj ht
        by_cases hji : j = i
        · subst hji
          have : oj = o := Option.some.inj (hoj.symm.trans ho)
          subst this
          rw [putO_dst ht]; exact hv t ht
        · rw [getD_set_ne false (Ne.symm hji)] at hlj
          have hjs := (Array.getElem?_eq_some_iff.1 hoj).1
          have hne : o.dst ≠ some t := fun he => by
            rcases Nat.lt_or_gt_of_ne hji with h' | h'
            · exact ok.dstM i j o oj t h' ho hoj he ht
            · exact ok.dstM j i oj o t h' hoj ho ht he
          rw [putO_ne hne, s.a j oj t hoj hlj ht]
          unfold oval
          cases he : (d.op j).eff with
          | true => exact (hvv j hji).symm
          | false =>
            simp only; congr 1
            refine List.map_congr_left fun k hk => (hvv k fun hki => ?_).symm
            subst hki
            have := (wt_listed ok.cert inv k j hjs (ok.depM j hjs k hk).1).1 hlj
            rw [hun] at this; cases this
      · intro t ht
        have hne : o.dst ≠ some t := ht i o ho (by simp [inv.size, his])
        rw [putO_ne hne]
        exact s.b t fun j oj hoj hlj => ht j oj hoj (getD_set_true hlj)
      · intro j hjs hlj he
        by_cases hji : j = i
        · subst hji; exact hc he
        · rw [getD_set_ne false (Ne.symm hji)] at hlj
          rw [hvv j hji]
          exact s.c j hjs hlj he
    cases he : (d.op i).eff with
    | true =>
      have hob := hE i ((ok.effM i his).1 he)
      unfold oblI at hob
      rw [ho] at hob
      have hno : lsE d listed i = false := by unfold lsE; rw [hun]; rfl
      have h1 := allE_elim (vv := vv) hdep (hob σ _ vv w hno s.g)
      rw [hfr] at h1
      refine effW_form ho (fun v w' hk => ?_) h1
      obtain ⟨hI, hsh⟩ := qO_elim hk
      have hself : upV vv i (dstv o (putO σ o.dst v)) i = dstv o (putO σ o.dst v) := by unfold upV; rw [Nat.beq_refl]; rfl
      refine go v w' (upV vv i (dstv o (putO σ o.dst v))) (fun k hk => by unfold upV; rw [nbeq_false hk]; rfl) (fun t ht => ?_) (fun _ => ?_) ?_
      · unfold oval
        rw [he]
        simp only
        rw [hself]
        unfold dstv
        rw [ht]
        have := putO_dst (σ := σ) (v := v) ht
        rw [ht] at this
        exact this.symm
      · rw [hself]; exact hsh
      · rw [lsE_eff (by rw [inv.size]; exact his) he]; exact hI
    | false =>
      have hob := hhid i his he
      unfold hidP at hob
      rw [ho] at hob
      have h1 := allS_elim (vv := vv) (fun j hj => (hdep j hj).2) (hob σ w)
      rw [hfr] at h1
      refine effW_form ho (fun v w' hk => ?_) h1
      obtain ⟨rfl, hk⟩ := hk
      refine go v w' vv (fun _ _ => rfl) (fun t ht => ?_) (fun h => by rw [he] at h; cases h) (by rw [lsE_hid he]; exact s.g)
      unfold oval
      rw [he]
      unfold dstv at hk
      rw [ht] at hk
      simp only at hk
      have := putO_dst (σ := σ) (v := v) ht
      rw [ht] at this
      rw [this] at hk
      exact hk
theorem openI_sound {P : Program} {hT : Hint} {n id : Nat} {ops : Array Oper} {d : OD} {σ : Fr} {w : World} {Q : Exit → Act → World → Prop} {K : Fr → World → Prop} (hm : P.follows .mixedOrders = true) (hc : chkO ops d = true)
    (hK : ∀ σ w, K σ w → Q .normal (act ds n σ) w) (h : openI P hT n ops d σ K w.drew) : (Code.region id ops true).wp P Q (act ds n σ) w := by
  refine wp_region_any hm ?_
  obtain ⟨hh, I, h0I, hE, hF⟩ := h
  have ok := ok_of hc
  have h0 : ∀ i, (Array.replicate ops.size false).getD i false = false := by
    intro i
    rcases Nat.lt_or_ge i ops.size with h' | h' <;> simp [h']
  refine openI_step ok (fun i hi he => hidPs_mem hh i (List.mem_range.2 hi) he) (fun i hi => oblIs_mem hE i hi) hK hF ops.size _ (fun _ => undef) σ w.drew ⟨by simp, (fun p hp => by simp at hp), fun j oj hj hl => ?_⟩ ⟨fun i o t ho hl => ?_, fun t _ => rfl, fun i hi hl => ?_, ?_⟩ ?_
  · rw [h0] at hl; cases hl
  · rw [h0] at hl; cases hl
  · rw [h0] at hl; cases hl
  · have : lsE d (Array.replicate ops.size false) = fun _ => false := by funext k; unfold lsE; rw [h0]; rfl
    rw [this]; exact h0I
  · unfold left
    have := List.length_filter_le (fun i => !(Array.replicate ops.size false).getD i false) (List.range ops.size)
    rwa [List.length_range] at this
abbrev PQ := Exit → Fr → World → Prop
abbrev Spec := PQ → Fr → World → Prop
inductive DH where
  | simple (A B : List DI) | held (A B : List DI) | opn (d : OD) | pre (A0 : List Nat) (A B : List DI) | opi (d : OD)
def thenQ (K : Fr → World → Prop) (Q : PQ) : PQ
  | .normal, σ, w => K σ w
  | e, σ, w => Q e σ w
def blockQ (id : Nat) (Q : PQ) : PQ
  | .exit id', σ, w => match Nat.beq id' id with | true => Q .normal σ w | false => Q (.exit id') σ w
  | e, σ, w => Q e σ w
def drawW (P : Program) (hT : Hint) (n : Nat) (ops : Array Oper) (d : DH) (σ : Fr) (K : Fr → World → Prop) (w : World) : Prop := match d with
  | .simple A B => drawA P hT n ops (fun w' => w' = w.drew) (fun a v => w.drew.cell? a = some v) A σ (fun σ w => drawB P hT n ops B σ K w) w.drew
  | .held A B => ∃ S : World → Prop, S w.drew ∧ drawA P hT n ops S (fun a v => ∀ w', S w' → w'.cell? a = some v) A σ (fun σ w => drawB P hT n ops B σ K w) w.drew
  | .opn d => openW P hT n ops d σ K w.drew
  | .opi d => openI P hT n ops d σ K w.drew
  | .pre A0 A B => drawP P hT n ops A0 σ fun σ => drawA P hT n ops (fun w' => w' = w.drew) (fun a v => w.drew.cell? a = some v) A σ (fun σ w => drawB P hT n ops B σ K w) w.drew
def codeW (P : Program) (hT : Hint) (n : Nat) (D : Nat → Option DH) (L : List Nat → Option Spec) : List Nat → Code → PQ → Fr → World → Prop
  | _, .skip, Q, σ, w => Q .normal σ w
  | _, .region _ ops false, Q, σ, w => opsW P hT n ops ops.toList σ (Q .normal) w
  | _, .region id ops true, Q, σ, w => match D id with
    | some d => drawW P hT n ops d σ (Q .normal) w
    | none => False
  | p, .seq a b, Q, σ, w => codeW P hT n D L (0 :: p) a (thenQ (fun σ w => match L (1 :: p) with
      | some T => T Q σ w
      | none => codeW P hT n D L (1 :: p) b Q σ w) Q) σ w
  | p, .cond c a b, Q, σ, w => match ev n σ c with
    | .bool t => sel t (match L (0 :: p) with
      | some T => T Q σ w
      | none => codeW P hT n D L (0 :: p) a Q σ w) (match L (1 :: p) with
      | some T => T Q σ w
      | none => codeW P hT n D L (1 :: p) b Q σ w)
    | _ => False
  | p, .block id c, Q, σ, w => codeW P hT n D L (0 :: p) c (blockQ id Q) σ w
  | p, .loop _, Q, σ, w => match L p with
    | some T => T Q σ w
    | none => False
  | p, .scope _, Q, σ, w => match L p with
    | some T => T Q σ w
    | none => False
  | p, .rangeFunc .., Q, σ, w => match L p with
    | some T => T Q σ w
    | none => False
  | _, .exit id, Q, σ, w => Q (.exit id) σ w
  | _, .label _, Q, σ, w => Q .normal σ w
  | _, .goto l, Q, σ, w => Q (.goto l) σ w
  | _, .ret, Q, σ, w => Q .ret σ w
  | _, .refuse _, _, _, _ => False
def liftQ (ds : List Deferred) (n : Nat) (Q : PQ) : Exit → Act → World → Prop := fun e a w => match e with
  | .panic _ => False
  | .outgrown => False
  | e => ∃ σ, a = act ds n σ ∧ Q e σ w
def Snd (P : Program) (n : Nat) (c : Code) (T : Spec) : Prop := ∀ (ds : List Deferred) Q σ w, T Q σ w → c.wp P (liftQ ds n Q) (act ds n σ) w
def child : Nat → Code → Option Code
  | 0, .seq a _ => some a
  | 1, .seq _ b => some b
  | 0, .cond _ a _ => some a
  | 1, .cond _ _ b => some b
  | 0, .block _ c => some c
  | 0, .loop c => some c
  | 0, .scope c => some c
  | 0, .rangeFunc _ _ a _ => some a
  | 1, .rangeFunc _ _ _ b => some b
  | _, _ => none
def subC : List Nat → Code → Option Code
  | [], c => some c
  | d :: p, c => (subC p c).bind (child d)
def chkC (D : Nat → Option DH) (L : List Nat → Bool) : List Nat → Code → Bool
  | _, .region id ops true => match D id with
    | some (.simple A B) => chkD ops A B
    | some (.held A B) => chkD ops A B
    | some (.opn d) => chkO ops d
    | some (.opi d) => chkO ops d
    | some (.pre A0 A B) => chkDP ops A0 A B
    | none => false
  | p, .seq a b => chkC D L (0 :: p) a && (match L (1 :: p) with | true => true | false => chkC D L (1 :: p) b)
  | p, .cond _ a b => (match L (0 :: p) with | true => true | false => chkC D L (0 :: p) a) && (match L (1 :: p) with | true => true | false => chkC D L (1 :: p) b)
  | p, .block _ c => chkC D L (0 :: p) c
  | _, _ => true
theorem liftQ_then {n : Nat} {K : Fr → World → Prop} {Q : PQ} {next : Act → World → Prop} (hK : ∀ σ w, K σ w → next (act ds n σ) w) :
    ∀ e a w, liftQ ds n (thenQ K Q) e a w → Exit.then next (liftQ ds n Q) e a w := by
  intro e a w h
  cases e <;> simp only [liftQ, thenQ, Exit.then] at h ⊢
  case normal => obtain ⟨σ, rfl, h⟩ := h; exact hK _ _ h
  all_goals exact h
theorem liftQ_block {n id : Nat} {Q : PQ} : ∀ e a w, liftQ ds n (blockQ id Q) e a w → Exit.inBlock id (liftQ ds n Q) e a w := by
  intro e a w h
  cases e with
  | exit id' =>
    simp only [liftQ, blockQ, Exit.inBlock] at h ⊢
    obtain ⟨σ, rfl, h⟩ := h
    by_cases e : id' = id
    · have : Nat.beq id' id = true := by subst e; exact Nat.beq_refl _
      rw [this] at h
      rw [if_pos e]
      exact ⟨σ, rfl, h⟩
    · rw [nbeq_false e] at h
      rw [if_neg e]
      exact ⟨σ, rfl, h⟩
  | normal => exact h
  | ret => exact h
  | goto l => exact h
  | panic c => exact h
  | outgrown => exact h
theorem codeW_sound {P : Program} {hT : Hint} {n : Nat} {D : Nat → Option DH} {L : List Nat → Option Spec} {c0 : Code} (hm : P.follows .mixedOrders = true)
    (hL : ∀ p c T, subC p c0 = some c → L p = some T → Snd P n c T) : ∀ (c : Code) (p : List Nat), subC p c0 = some c → chkC D (fun p => (L p).isSome) p c = true →
      Snd P n c (codeW P hT n D L p c) := by
  intro c
  induction c with
  | skip => intro p _ _ ds Q σ w h; exact wp_skip ⟨σ, rfl, h⟩
  | region id ops draw =>
    intro p _ hc ds Q σ w h
    cases draw with
    | false => exact wp_region_list (opsW_sound (Q := liftQ ds n Q) (fun σ' w' h' => ⟨σ', rfl, h'⟩) ops.toList σ w h)
    | true =>
      simp only [codeW] at h
      simp only [chkC] at hc
      have hQ : ∀ c a w, ¬ liftQ ds n Q (.panic c) a w := fun c a w h => h
      split at h
      · rename_i d hd
        rw [hd] at hc
        cases d with
        | simple A B => exact draw_sound (S := fun w' => w' = w.drew) hm hc hQ (fun σ' w' h' => ⟨σ', rfl, h'⟩) (fun a v hv w' hw' => by rw [hw']; exact hv) rfl h
        | held A B =>
          obtain ⟨S, hS, h⟩ := h
          exact draw_sound (S := S) hm hc hQ (fun σ' w' h' => ⟨σ', rfl, h'⟩) (fun a v hv => hv) hS h
        | opn d => exact open_sound hm hc (fun σ' w' h' => ⟨σ', rfl, h'⟩) h
        | opi d => exact openI_sound hm hc (fun σ' w' h' => ⟨σ', rfl, h'⟩) h
        | pre A0 A B => exact drawpre_sound (S := fun w' => w' = w.drew) hm hc hQ (fun σ' w' h' => ⟨σ', rfl, h'⟩) (fun a v hv w' hw' => by rw [hw']; exact hv) rfl h
      · exact h.elim
  | seq a b iha ihb =>
    intro p hp hc ds Q σ w h
    simp only [chkC, Bool.and_eq_true] at hc
    have ha : subC (0 :: p) c0 = some a := by simp [subC, hp, child]
    have hb : subC (1 :: p) c0 = some b := by simp [subC, hp, child]
    refine wp_seq (wp_mono (iha _ ha hc.1 _ _ σ w h) (liftQ_then fun σ' w' h' => ?_))
    split at h'
    · rename_i T hT'
      exact hL _ _ _ hb hT' _ _ _ _ h'
    · rename_i hT'
      have hc2 := hc.2
      rw [hT'] at hc2
      exact ihb _ hb hc2 _ _ _ _ h'
  | cond c a b iha ihb =>
    intro p hp hc ds Q σ w h
    simp only [chkC, Bool.and_eq_true] at hc
    have ha : subC (0 :: p) c0 = some a := by simp [subC, hp, child]
    have hb : subC (1 :: p) c0 = some b := by simp [subC, hp, child]
    simp only [codeW] at h
    split at h
    · rename_i t ht
      refine wp_cond_split (t := t) (by rw [act_eval]; exact ht) (fun e => ?_) (fun e => ?_)
      · subst e
        simp only [sel] at h
        split at h
        · rename_i T hT'; exact hL _ _ _ ha hT' _ _ _ _ h
        · rename_i hT'
          have hc1 := hc.1
          rw [hT'] at hc1
          exact iha _ ha hc1 _ _ _ _ h
      · subst e
        simp only [sel] at h
        split at h
        · rename_i T hT'; exact hL _ _ _ hb hT' _ _ _ _ h
        · rename_i hT'
          have hc2 := hc.2
          rw [hT'] at hc2
          exact ihb _ hb hc2 _ _ _ _ h
    · exact h.elim
  | block id c ih =>
    intro p hp hc ds Q σ w h
    simp only [chkC] at hc
    have ha : subC (0 :: p) c0 = some c := by simp [subC, hp, child]
    exact wp_block (wp_mono (ih _ ha hc _ _ σ w h) liftQ_block)
  | loop c ih =>
    intro p hp hc ds Q σ w h
    simp only [codeW] at h
    split at h
    · rename_i T hT'; exact hL _ _ _ hp hT' _ _ _ _ h
    · exact h.elim
  | rangeFunc f params assign body ih1 ih2 =>
    intro p hp hc ds Q σ w h
    simp only [codeW] at h
    split at h
    · rename_i T hT'; exact hL _ _ _ hp hT' _ _ _ _ h
    · exact h.elim
  | scope c ih =>
    intro p hp hc ds Q σ w h
    simp only [codeW] at h
    split at h
    · rename_i T hT'; exact hL _ _ _ hp hT' _ _ _ _ h
    · exact h.elim
  | exit id => intro p _ _ ds Q σ w h; exact wp_exit ⟨σ, rfl, h⟩
  | label l => intro p _ _ ds Q σ w h; exact wp_label ⟨σ, rfl, h⟩
  | goto l => intro p _ _ ds Q σ w h; exact wp_goto ⟨σ, rfl, h⟩
  | ret => intro p _ _ ds Q σ w h; exact wp_ret ⟨σ, rfl, h⟩
  | refuse y => intro p _ _ ds Q σ w h; exact h.elim
theorem loop_snd {P : Program} {n : Nat} {c : Code} {Tk : Nat → Spec} (h0 : ∀ Q σ w, ¬ Tk 0 Q σ w)
    (hs : ∀ (ds : List Deferred) k Q σ w, Tk (k + 1) Q σ w → c.wp P (liftQ ds n (thenQ (Tk k Q) Q)) (act ds n σ) w) :
    Snd P n (.loop c) (fun Q σ w => ∃ k, Tk k Q σ w) := by
  rintro ds Q σ w ⟨k, hk⟩ b kk cs
  have key : ∀ k σ w, Tk k Q σ w → ∃ e a' w', liftQ ds n Q e a' w' ∧ Arrives P (lone (b.at (act ds n σ) (.code c :: .inLoop c :: kk)) cs w) b kk cs e a' w' := by
    intro k
    induction k with
    | zero => intro σ w h; exact absurd h (h0 _ _ _)
    | succ k ih =>
      intro σ w h
      obtain ⟨e, a₁, w₁, hq, harr⟩ := hs ds k Q σ w h b (.inLoop c :: kk) cs
      cases e with
      | normal =>
        obtain ⟨σ₁, rfl, hq⟩ := hq
        obtain ⟨e₂, a₂, w₂, hq₂, harr₂⟩ := ih σ₁ w₁ hq
        exact ⟨e₂, a₂, w₂, hq₂, .of_steps (Steps.trans harr (.one step_inLoop)) harr₂⟩
      | exit id => exact ⟨.exit id, a₁, w₁, (show liftQ ds n Q (.exit id) a₁ w₁ from hq), .pass (x := .inLoop c) rfl (fun _ _ => .inl (by simp)) harr⟩
      | goto l => exact ⟨.goto l, a₁, w₁, (show liftQ ds n Q (.goto l) a₁ w₁ from hq), .pass (x := .inLoop c) rfl (fun _ _ => .inl (by simp)) harr⟩
      | ret => exact ⟨.ret, a₁, w₁, (show liftQ ds n Q .ret a₁ w₁ from hq), .pass (x := .inLoop c) rfl (fun _ _ => .inl (by simp)) harr⟩
      | panic ch => exact hq.elim
      | outgrown => exact hq.elim
  obtain ⟨e, a', w', hq, harr⟩ := key k σ w hk
  exact ⟨e, a', w', hq, .of_steps (.one step_loop) harr⟩
def ldBig (P : Program) (w : World) (t : TypeId) (ad : Addr) (K : Array Value → Prop) : Prop := ∃ cs : Array Value, (loadVar t ad : Sem Value).run P w = .ok (.agg cs) w ∧ K cs
def resGo (P : Program) (hT : Hint) (n : Nat) (σ : Fr) (w : World) : List ResultVar → (List Value → Prop) → Prop
  | [], K => K []
  | .tmp t :: r, K => req (Nat.blt t n) (resGo P hT n σ w r fun vs => K (σ t :: vs))
  | .cell a t :: r, K => req (Nat.blt a n) (match σ a with
    | .pointer (some ad) => (match bigT P t with
      | true => ldBig P w t ad fun cs => resGo P hT n σ w r fun vs => K (.agg cs :: vs)
      | false => rdP P (loadVar t ad) (hT t).loads (fun a v => w.cell? a = some v) fun v => resGo P hT n σ w r fun vs => K (v :: vs))
    | _ => False)
def packV (vs : List Value) : Value := match vs with
  | [v] => v
  | vs => .tuple ⟨vs⟩
theorem act_getD (n : Nat) (σ : Fr) (t : Nat) (h : t < n) : (act ds n σ).tmps.getD t undef = σ t := by
  rw [Array.getD_eq_getD_getElem?, act_get, if_pos h]; rfl
theorem resGo_sound {P : Program} {hT : Hint} {n : Nat} {σ : Fr} {w : World} : ∀ {rs : List ResultVar} {K : List Value → Prop}, resGo P hT n σ w rs K →
    ∃ vs, vs.length = rs.length ∧ (rs.mapM fun r => (match r with
      | .tmp t => pure ((act ds n σ).tmps.getD t undef)
      | .cell a t => do loadVar t (← asAddr ((act ds n σ).tmps.getD a undef)) : Sem Value)).run P w = .ok vs w ∧ K vs
  | [], K, h => ⟨[], rfl, rfl, h⟩
  | .tmp t :: r, K, h => by
    obtain ⟨ht, h⟩ := req_elim h
    obtain ⟨vs, hl, hr, hk⟩ := resGo_sound h
    refine ⟨_, by simp [hl], ?_, hk⟩
    rw [List.mapM_cons]
    simp only
    rw [act_getD _ _ _ (Nat.blt_eq.mp ht)]
    rw [pure_bind, goes hr]; rfl
  | .cell a t :: r, K, h => by
    obtain ⟨ht, h⟩ := req_elim h
    split at h
    · rename_i ad had
      split at h
      · obtain ⟨cs, hv, h⟩ := h
        obtain ⟨vs, hl, hr, hk⟩ := resGo_sound h
        refine ⟨_, by simp [hl], ?_, hk⟩
        rw [List.mapM_cons]
        simp only
        rw [act_getD _ _ _ (Nat.blt_eq.mp ht), had]
        have e : (do loadVar t (← asAddr (Value.pointer (some ad))) : Sem Value).run P w = .ok (.agg cs) w := hv
        rw [goes e, goes hr]; rfl
      obtain ⟨v, hv, h⟩ := rdP_run P (fun w' => w' = w) (fun a v => w.cell? a = some v) (fun a v h w' hw' => by rw [hw']; exact h) _ _ _ h
      obtain ⟨vs, hl, hr, hk⟩ := resGo_sound h
      refine ⟨_, by simp [hl], ?_, hk⟩
      rw [List.mapM_cons]
      simp only
      rw [act_getD _ _ _ (Nat.blt_eq.mp ht), had]
      have e : (do loadVar t (← asAddr (Value.pointer (some ad))) : Sem Value).run P w = .ok v w := hv w rfl
      rw [goes e, goes hr]; rfl
    · exact h.elim
def topQ (P : Program) (hT : Hint) (n : Nat) (rs : List ResultVar) (Q : Ending → World → Prop) : PQ := fun e σ w => match e with
  | .normal => resGo P hT n σ w rs fun vs => Q (.returned (packV vs)) w
  | .ret => resGo P hT n σ w rs fun vs => Q (.returned (packV vs)) w
  | _ => False
theorem results_sound {P : Program} {hT : Hint} {n : Nat} {σ : Fr} {w : World} {fn : Func} {rs : List ResultVar} (hrs : fn.results = ⟨rs⟩) {K : List Value → Prop} (h : resGo P hT n σ w rs K) :
    ∃ vs, (results fn (act ds n σ).tmps).run P w = .ok (packV vs) w ∧ K vs := by
  obtain ⟨vs, hl, hr, hk⟩ := resGo_sound h
  refine ⟨vs, ?_, hk⟩
  unfold results
  rw [hrs, Array.mapM_eq_mapM_toList]
  simp only [bind_map_left]
  refine (goes (a := vs) (w' := w) hr).trans ?_
  match vs with
  | [] => rfl
  | [v] => rfl
  | v :: u :: r => rfl
theorem calls_of_codeW {P : Program} {hT : Hint} {D : Nat → Option DH} {L : List Nat → Option Spec} {f : FuncId} {fn : Func} {c : Code} {n : Nat} {rs : List ResultVar} {args : List Value} {w : World}
    {Q : Ending → World → Prop} (hf : P.funcs[f]? = some fn) (hb : fn.body = some c) (hn : fn.ntmps = n) (hrs : fn.results = ⟨rs⟩) (hlen : Nat.ble args.length n = true)
    (hm : P.follows .mixedOrders = true) (hL : ∀ p c' T, subC p c = some c' → L p = some T → Snd P n c' T) (hc : chkC D (fun p => (L p).isSome) [] c = true)
    (h : codeW P hT n D L [] c (topQ P hT n rs Q) (argsF args) w) : Calls P f ⟨args⟩ w Q := by
  refine calls_of_wp hf hb ?_
  have e : ({ tmps := (⟨args⟩ : Array Value) ++ Array.replicate (fn.ntmps - (⟨args⟩ : Array Value).size) undef, defers := [] } : Act) = act [] n (argsF args) := by
    unfold act
    congr 1
    rw [hn]
    have hle : args.length ≤ n := Nat.ble_eq.mp hlen
    apply Array.ext
    · simp; omega
    · intro i h1 h2
      simp only [Array.getElem_ofFn, argsF]
      rw [Array.getElem_append]
      split
      · rename_i hi
        have hi' : i < args.length := by simpa using hi
        simp [List.getD_eq_getElem?_getD, hi']
      · rename_i hi
        have hi' : args.length ≤ i := by simpa using hi
        simp [List.getD_eq_getElem?_getD, List.getElem?_eq_none hi']
  rw [e]
  refine wp_mono (codeW_sound hm hL c [] rfl hc _ _ _ _ h) ?_
  intro ex a w' hq
  cases ex <;> simp only [liftQ, topQ] at hq
  case normal =>
    obtain ⟨σ, rfl, hq⟩ := hq
    obtain ⟨vs, hr, hk⟩ := results_sound hrs hq
    exact ⟨rfl, _, hr, hk⟩
  case ret =>
    obtain ⟨σ, rfl, hq⟩ := hq
    obtain ⟨vs, hr, hk⟩ := results_sound hrs hq
    exact ⟨rfl, _, hr, hk⟩
  case exit => obtain ⟨σ, rfl, hq⟩ := hq; exact hq.elim
  case goto => obtain ⟨σ, rfl, hq⟩ := hq; exact hq.elim
def eqL : List Nat → List Nat → Bool
  | [], [] => true
  | a :: x, b :: y => Nat.beq a b && eqL x y
  | _, _ => false
theorem eqL_eq : ∀ {x y : List Nat}, eqL x y = true → x = y
  | [], [], _ => rfl
  | a :: x, b :: y, h => by
    simp only [eqL, Bool.and_eq_true] at h
    rw [Nat.eq_of_beq_eq_true h.1, eqL_eq h.2]
  | [], _ :: _, h => by simp [eqL] at h
  | _ :: _, [], h => by simp [eqL] at h
def tab (l : List (List Nat × Spec)) (p : List Nat) : Option Spec := match l with
  | [] => none
  | (q, T) :: r => match eqL q p with
    | true => some T
    | false => tab r p
theorem tab_mem : ∀ {l : List (List Nat × Spec)} {p : List Nat} {T : Spec}, tab l p = some T → (p, T) ∈ l
  | [], p, T, h => by simp [tab] at h
  | (q, T') :: r, p, T, h => by
    unfold tab at h
    split at h
    · rename_i e
      injection h with h; subst h; rw [eqL_eq e]; exact List.mem_cons_self
    · exact List.mem_cons_of_mem _ (tab_mem h)
theorem tab_snd {P : Program} {n : Nat} {c0 : Code} {l : List (List Nat × Spec)} (h : ∀ x ∈ l, ∀ c, subC x.1 c0 = some c → Snd P n c x.2) :
    ∀ p c T, subC p c0 = some c → tab l p = some T → Snd P n c T := fun p c T hs ht => h (p, T) (tab_mem ht) c hs
def dtab (l : List (Nat × DH)) (i : Nat) : Option DH := match l with
  | [] => none
  | (j, d) :: r => match Nat.beq j i with
    | true => some d
    | false => dtab r i
structure LO where
  nrm : List Nat
  ret : List Nat
  exits : List (Nat × List Nat)
  gotos : List (Nat × List Nat)
def lookE (l : List (Nat × List Nat)) (i : Nat) : List Nat := match l with
  | [] => []
  | (j, x) :: r => match Nat.beq j i with
    | true => x
    | false => lookE r i
def readS (σ : Fr) (l : List Nat) : List (Nat × Value) := match l with
  | [] => []
  | t :: r => (t, σ t) :: readS σ r
theorem ov_readS (σ : Fr) (l : List Nat) : ov σ (readS σ l) = σ := by
  refine ov_self fun x hx => ?_
  induction l with
  | nil => simp [readS] at hx
  | cons t r ih =>
    simp only [readS, List.mem_cons] at hx
    rcases hx with rfl | hx
    · rfl
    · exact ih hx
def widen (L : LO) (Q : PQ) : PQ
  | .normal, σ, w => ∀ d : Fr, Q .normal (ov d (readS σ L.nrm)) w
  | .ret, σ, w => ∀ d : Fr, Q .ret (ov d (readS σ L.ret)) w
  | .exit i, σ, w => ∀ d : Fr, Q (.exit i) (ov d (readS σ (lookE L.exits i))) w
  | .goto i, σ, w => ∀ d : Fr, Q (.goto i) (ov d (readS σ (lookE L.gotos i))) w
  | e, σ, w => Q e σ w
theorem widen_le {L : LO} {Q : PQ} : ∀ e σ w, widen L Q e σ w → Q e σ w := by
  intro e σ w h
  cases e <;> simp only [widen] at h
  case normal => have := h σ; rwa [ov_readS] at this
  case ret => have := h σ; rwa [ov_readS] at this
  case exit i => have := h σ; rwa [ov_readS] at this
  case goto i => have := h σ; rwa [ov_readS] at this
  all_goals exact h
theorem liftQ_le {n : Nat} {Q Q' : PQ} (h : ∀ e σ w, Q e σ w → Q' e σ w) : ∀ e a w, liftQ ds n Q e a w → liftQ ds n Q' e a w := by
  intro e a w hq
  cases e <;> simp only [liftQ] at hq ⊢
  all_goals (obtain ⟨σ, rfl, hq⟩ := hq; exact ⟨σ, rfl, h _ _ _ hq⟩)
theorem thenQ_le {K : Fr → World → Prop} {Q Q' : PQ} (h : ∀ e σ w, Q e σ w → Q' e σ w) : ∀ e σ w, thenQ K Q e σ w → thenQ K Q' e σ w := by
  intro e σ w hq
  cases e <;> simp only [thenQ] at hq ⊢
  case normal => exact hq
  all_goals exact h _ _ _ hq
theorem loop_of {P : Program} {hT : Hint} {n : Nat} {D : Nat → Option DH} {l : List (List Nat × Spec)} {c0 b : Code} {p : List Nat} {Tk : Nat → Spec} {lo : LO} (hm : P.follows .mixedOrders = true)
    (hL : ∀ x ∈ l, ∀ c, subC x.1 c0 = some c → Snd P n c x.2) (hp : subC p c0 = some (.loop b)) (hc : chkC D (fun p => (tab l p).isSome) (0 :: p) b = true)
    (h0 : ∀ Q σ w, ¬ Tk 0 Q σ w) (h : ∀ k Q σ w, Tk (k + 1) Q σ w → codeW P hT n D (tab l) (0 :: p) b (thenQ (Tk k Q) (widen lo Q)) σ w) :
    ∀ c, subC p c0 = some c → Snd P n c (fun Q σ w => ∃ k, Tk k Q σ w) := by
  intro c hc'
  obtain rfl : c = .loop b := Option.some.inj (hc'.symm.trans hp)
  refine loop_snd h0 fun ds k Q σ w ht => ?_
  refine wp_mono (codeW_sound hm (tab_snd hL) b (0 :: p) (by simp [subC, hp, child]) hc ds _ σ w (h k Q σ w ht)) ?_
  exact liftQ_le (thenQ_le widen_le)
theorem cut_of {P : Program} {hT : Hint} {n : Nat} {D : Nat → Option DH} {l : List (List Nat × Spec)} {c0 b : Code} {p : List Nat} {T : Spec} {lo : LO} (hm : P.follows .mixedOrders = true)
    (hL : ∀ x ∈ l, ∀ c, subC x.1 c0 = some c → Snd P n c x.2) (hp : subC p c0 = some b) (hc : chkC D (fun p => (tab l p).isSome) p b = true)
    (h : ∀ Q σ w, T Q σ w → codeW P hT n D (tab l) p b (widen lo Q) σ w) : ∀ c, subC p c0 = some c → Snd P n c T := by
  intro c hc' ds Q σ w ht
  obtain rfl : c = b := Option.some.inj (hc'.symm.trans hp)
  exact wp_mono (codeW_sound hm (tab_snd hL) c p hp hc ds _ σ w (h Q σ w ht)) (liftQ_le widen_le)
def gotoQ (l : Nat) (K : Fr → World → Prop) (Q : PQ) : PQ
  | .goto l', σ, w => match Nat.beq l' l with | true => K σ w | false => False
  | e, σ, w => Q e σ w
theorem scope_snd {P : Program} {n l : Nat} {b b' : Code} {Tk : Nat → Spec} {T : Spec} (hf : findLabel b l = some (.seq .skip b')) (h0 : ∀ Q σ w, ¬ Tk 0 Q σ w)
    (hs : ∀ (ds : List Deferred) k Q σ w, Tk (k + 1) Q σ w → b'.wp P (liftQ ds n (gotoQ l (Tk k Q) Q)) (act ds n σ) w)
    (h : ∀ (ds : List Deferred) Q σ w, T Q σ w → b.wp P (liftQ ds n (gotoQ l (fun σ w => ∃ k, Tk k Q σ w) Q)) (act ds n σ) w) : Snd P n (.scope b) T := by
  intro ds Q σ w hT bb kk cs
  have hg : gotoIn l (.inScope b :: kk) = some (.code (.seq .skip b') :: .inScope b :: kk) := by simp [gotoIn, hf]
  have key : ∀ k σ w, Tk k Q σ w → ∃ e a' w', liftQ ds n Q e a' w' ∧ Arrives P (lone (bb.at (act ds n σ) (.code (.seq .skip b') :: .inScope b :: kk)) cs w) bb kk cs e a' w' := by
    intro k
    induction k with
    | zero => intro σ w h; exact absurd h (h0 _ _ _)
    | succ k ih =>
      intro σ w hk
      have hw : (Code.seq .skip b').wp P (liftQ ds n (gotoQ l (Tk k Q) Q)) (act ds n σ) w := wp_seq (wp_skip (hs ds k Q σ w hk))
      obtain ⟨e, a₁, w₁, hq, harr⟩ := hw bb (.inScope b :: kk) cs
      cases e with
      | normal => exact ⟨.normal, a₁, w₁, hq, Steps.trans harr (.one step_inScope)⟩
      | exit id => exact ⟨.exit id, a₁, w₁, hq, fun k' hk => harr k' (by simp [exitTo, hk])⟩
      | goto l' =>
        obtain ⟨σ₁, rfl, hq⟩ := hq
        by_cases e : l' = l
        · subst e
          simp only [gotoQ, Nat.beq_refl] at hq
          obtain ⟨e₂, a₂, w₂, hq₂, harr₂⟩ := ih σ₁ w₁ hq
          exact ⟨e₂, a₂, w₂, hq₂, .of_steps (harr _ hg) harr₂⟩
        · simp only [gotoQ, nbeq_false e] at hq
      | ret => exact ⟨.ret, a₁, w₁, hq, harr⟩
      | panic ch => exact hq.elim
      | outgrown => exact hq.elim
  obtain ⟨e, a₁, w₁, hq, harr⟩ := h ds Q σ w hT bb (.inScope b :: kk) cs
  cases e with
  | normal => exact ⟨.normal, a₁, w₁, hq, .head step_scope (Steps.trans harr (.one step_inScope))⟩
  | exit id => exact ⟨.exit id, a₁, w₁, hq, fun k' hk => .head step_scope (harr k' (by simp [exitTo, hk]))⟩
  | goto l' =>
    obtain ⟨σ₁, rfl, hq⟩ := hq
    by_cases e : l' = l
    · subst e
      simp only [gotoQ, Nat.beq_refl] at hq
      obtain ⟨k, hk⟩ := hq
      obtain ⟨e₂, a₂, w₂, hq₂, harr₂⟩ := key k σ₁ w₁ hk
      exact ⟨e₂, a₂, w₂, hq₂, .of_steps (.head step_scope (harr _ hg)) harr₂⟩
    · simp only [gotoQ, nbeq_false e] at hq
  | ret => exact ⟨.ret, a₁, w₁, hq, .of_steps (.one step_scope) harr⟩
  | panic ch => exact hq.elim
  | outgrown => exact hq.elim
theorem gotoQ_le {l : Nat} {K : Fr → World → Prop} {Q Q' : PQ} (h : ∀ e σ w, Q e σ w → Q' e σ w) : ∀ e σ w, gotoQ l K Q e σ w → gotoQ l K Q' e σ w := by
  intro e σ w hq
  cases e <;> simp only [gotoQ] at hq ⊢
  case goto => exact hq
  all_goals exact h _ _ _ hq
theorem scope_of {P : Program} {hT : Hint} {n : Nat} {D : Nat → Option DH} {l : List (List Nat × Spec)} {c0 b b' : Code} {p pb : List Nat} {lb : Nat} {Tk : Nat → Spec} {T Tb : Spec} {lo : LO} (hm : P.follows .mixedOrders = true)
    (hL : ∀ x ∈ l, ∀ c, subC x.1 c0 = some c → Snd P n c x.2) (hp : subC p c0 = some (.scope b)) (hc : chkC D (fun p => (tab l p).isSome) (0 :: p) b = true)
    (hf : findLabel b lb = some (.seq .skip b')) (hpb : subC pb c0 = some b') (hTb : ∀ c, subC pb c0 = some c → Snd P n c Tb)
    (h0 : ∀ Q σ w, ¬ Tk 0 Q σ w) (hk : ∀ k Q σ w, Tk (k + 1) Q σ w → Tb (gotoQ lb (Tk k Q) Q) σ w)
    (h : ∀ Q σ w, T Q σ w → codeW P hT n D (tab l) (0 :: p) b (gotoQ lb (fun σ w => ∃ k, Tk k Q σ w) (widen lo Q)) σ w) : ∀ c, subC p c0 = some c → Snd P n c T := by
  intro c hc'
  obtain rfl : c = .scope b := Option.some.inj (hc'.symm.trans hp)
  refine scope_snd hf h0 (fun ds k Q σ w ht => hTb _ hpb ds _ _ _ (hk k Q σ w ht)) fun ds Q σ w ht => ?_
  refine wp_mono (codeW_sound hm (tab_snd hL) b (0 :: p) (by simp [subC, hp, child]) hc ds _ σ w (h Q σ w ht)) ?_
  exact liftQ_le (gotoQ_le widen_le)
def ldI (w : World) (a : Addr) (k : IntKind) (K : Int → Prop) : Prop := ∃ x : Int, w.cell? a = some (.int k x) ∧ K x
def ldB (w : World) (a : Addr) (K : Bool → Prop) : Prop := ∃ x : Bool, w.cell? a = some (.bool x) ∧ K x
def ldT (w : World) (a : Addr) (K : ByteArray → Prop) : Prop := ∃ x : ByteArray, w.cell? a = some (.string x) ∧ K x
def ldP (w : World) (a : Addr) (K : Option Addr → Prop) : Prop := ∃ x : Option Addr, w.cell? a = some (.pointer x) ∧ K x
def ldS (w : World) (a : Addr) (K : Option Addr → Nat → Nat → Prop) : Prop := ∃ (A : Option Addr) (n c : Nat), w.cell? a = some (.slice A n c) ∧ K A n c
def ldM (w : World) (a : Addr) (K : Option Nat → Prop) : Prop := ∃ x : Option Nat, w.cell? a = some (.map x) ∧ K x
def ldF (w : World) (a : Addr) (k : FloatKind) (K : Nat → Prop) : Prop := ∃ x : Nat, w.cell? a = some (.float k x) ∧ K x
def ldC (w : World) (a : Addr) (k : FloatKind) (K : Nat → Nat → Prop) : Prop := ∃ (x y : Nat), w.cell? a = some (.complex k x y) ∧ K x y
def hdI (S : World → Prop) (a : Addr) (k : IntKind) (K : Int → Prop) : Prop := ∃ x : Int, (∀ w', S w' → w'.cell? a = some (.int k x)) ∧ K x
def hdP (S : World → Prop) (a : Addr) (K : Option Addr → Prop) : Prop := ∃ x : Option Addr, (∀ w', S w' → w'.cell? a = some (.pointer x)) ∧ K x
def hdS (S : World → Prop) (a : Addr) (K : Option Addr → Nat → Nat → Prop) : Prop := ∃ (A : Option Addr) (n c : Nat), (∀ w', S w' → w'.cell? a = some (.slice A n c)) ∧ K A n c
def hdM (S : World → Prop) (a : Addr) (K : Option Nat → Prop) : Prop := ∃ x : Option Nat, (∀ w', S w' → w'.cell? a = some (.map x)) ∧ K x
def stW (w : World) (a : Addr) (v : Value) (K : World → Prop) : Prop := Wr w a ∧ K (w.setCell a v)
def alW (w : World) (o : Obj) (K : Nat → World → Prop) : Prop := K w.heap.size (w.alloc o)
def drW (w : World) (K : World → Prop) : Prop := K w.drew
def band (k : IntKind) (x y : Int) : Int := k.wrap ((BitVec.ofInt k.bits x &&& BitVec.ofInt k.bits y).toNat : Int)
def bxor (k : IntKind) (x y : Int) : Int := k.wrap ((BitVec.ofInt k.bits x ^^^ BitVec.ofInt k.bits y).toNat : Int)
end Go.Dn
namespace Go.Proofs.YtbhhbnnmdekjiaaGreat.Rd
open Go.Dn
def hT : Hint := fun t => List.getD [
  .tup [],
  .one (.sc .any),
  .one (.sc (.int .i64)),
  .one (.sc (.int .i64)),
  .one (.sc .bool),
  .one (.sc (.int .u8)),
  .one (.sc (.int .u8)),
  .one (.agg [(.int .i64), (.int .i64), .bool, (.int .u8)]),
  .one (.agg [(.int .i64), (.int .i64), .bool, (.int .u8)]),
  .one (.sc .str),
  .one (.sc .str),
  .one (.sc .str),
  .one (.sc (.int .u64)),
  .one (.agg [.str, (.int .u64)]),
  .one (.agg [.str, (.int .u64)]),
  .one (.sc .ptr),
  .one (.sc .ptr),
  .one (.sc .ptr),
  .one (.agg [.ptr]),
  .one (.agg [.ptr]),
  .one (.sc .any),
  .one (.sc (.int .i32)),
  .one (.sc .slice),
  .one (.sc .slice),
  .one (.sc .ptr),
  .one (.sc .any),
  .one (.sc .any),
  .one (.sc .slice),
  .one (.agg [.slice, .slice]),
  .one (.agg [.slice, .slice]),
  .one (.agg [(.int .i64), (.int .i64), (.int .i64), (.int .i64)]),
  .one (.agg [(.int .i64), (.int .i64), (.int .i64), (.int .i64)]),
  .one (.agg [(.int .i64), (.int .i64), (.int .i64), (.int .i64), (.int .i64)]),
  .one (.agg [(.int .i64), (.int .i64), (.int .i64), (.int .i64), (.int .i64)]),
  .tup [(.agg [.slice, .slice]), (.sc .bool)],
  .one (.sc .any),
  .tup [(.sc (.int .i64)), (.sc (.int .i64))],
  .one (.sc .any),
  .one (.sc .any),
  .one (.sc .any),
  .one (.sc .any),
  .one (.sc .any),
  .one (.sc .any),
  .one (.sc (.int .i64)),
  .tup [(.sc .bool), (.sc (.int .i64))],
  .one (.sc .any),
  .tup [(.sc .slice), (.sc (.int .i64))],
  .one (.sc .any),
  .one (.sc .any),
  .one (.sc .any),
  .one (.sc .any),
  .one (.sc .any),
  .one (.sc .any),
  .one (.sc .any),
  .one (.sc .any),
  .tup [(.agg [.slice, .slice]), (.sc (.int .i64))],
  .one (.sc .any),
  .one (.sc .any),
  .one (.sc .any),
  .tup [(.sc (.int .i64)), (.sc (.int .i64))],
  .one (.sc .any),
  .one (.sc .any),
  .one (.sc .any),
  .one (.sc .any),
  .one (.sc .map),
  .one (.sc .map),
  .one (.sc .slice),
  .one (.agg [.slice, .slice, .map, .map]),
  .one (.agg [.slice, .slice, .map, .map]),
  .one (.sc .ptr),
  .one (.sc .any),
  .one (.sc .ptr),
  .one (.agg [(.int .i64), (.int .i64), (.int .i64), .bool]),
  .one (.agg [(.int .i64), (.int .i64), (.int .i64), .bool]),
  .one (.sc .any),
  .one (.sc .any),
  .one (.sc .any),
  .one (.sc .ptr),
  .one (.sc .map),
  .one (.agg [.ptr, .map]),
  .one (.agg [.ptr, .map]),
  .one (.sc .any),
  .one (.sc .any),
  .one (.sc .any),
  .one (.sc .any),
  .one (.sc .any),
  .one (.sc .any),
  .one (.agg [.bool, (.int .i64)]),
  .one (.agg [.bool, (.int .i64)]),
  .one (.sc (.cpx .f64)),
  .one (.sc .slice),
  .one (.agg [(.int .i64), (.int .i64), (.cpx .f64), .slice]),
  .one (.agg [(.int .i64), (.int .i64), (.cpx .f64), .slice]),
  .one (.agg [(.int .i64), (.int .i64), (.int .i64), (.int .i64), (.int .i64), .bool, (.int .i64), .str, (.int .i64), (.int .i64), (.cpx .f64), .slice]),
  .one (.agg [(.int .i64), (.int .i64), (.int .i64), (.int .i64), (.int .i64), .bool, (.int .i64), .str, (.int .i64), (.int .i64), (.cpx .f64), .slice]),
  .one (.sc .any),
  .one (.sc .map),
  .one (.sc .any),
  .one (.sc .any),
  .one (.sc .any),
  .one (.sc .any),
  .one (.sc .any),
  .one (.agg [.slice, .slice, .slice, .slice]),
  .one (.agg [.slice, .slice, .slice, .slice]),
  .one (.sc .ptr),
  .one (.sc .map),
  .one (.sc .map),
  .one (.agg [.ptr, .map, .map, .map, .slice]),
  .one (.agg [.ptr, .map, .map, .map, .slice]),
  .one (.agg [(.int .i64), (.int .i64), (.int .i64)]),
  .one (.agg [(.int .i64), (.int .i64), (.int .i64)]),
  .one (.sc .any),
  .one (.sc .any),
  .tup [(.sc (.int .i64)), (.sc .bool)],
  .one (.sc .any),
  .one (.agg [.bool, (.int .i64)]),
  .one (.agg [.bool, (.int .i64)]),
  .one (.agg [(.int .i64), (.int .i64)]),
  .one (.agg [(.int .i64), (.int .i64)]),
  .one (.sc .any),
  .one (.sc .any),
  .tup [(.agg [(.int .i64), (.int .i64)]), (.sc .bool)],
  .one (.sc .any),
  .one (.sc .any),
  .one (.sc .map),
  .one (.sc .any),
  .one (.sc .slice),
  .one (.agg [.slice, .slice, .slice]),
  .one (.agg [.slice, .slice, .slice]),
  .tup [(.agg [.slice, .slice, .slice]), (.sc (.int .i64))],
  .one (.sc .any),
  .one (.sc .any),
  .tup [(.agg [(.int .i64), (.int .i64), (.int .i64)]), (.sc (.int .i64))],
  .one (.sc .any),
  .one (.sc .any),
  .one (.sc .any),
  .one (.sc .any),
  .one (.sc .any),
  .one (.sc .any),
  .one (.sc .any),
  .one (.sc .any),
  .one (.sc (.int .u64)),
  .one (.agg [(.int .i64), (.int .i64), (.int .i64), (.int .u64), (.int .i64), (.int .i64), (.int .i64), (.int .i64), (.int .i64), (.int .i64), (.int .i64)]),
  .one (.agg [(.int .i64), (.int .i64), (.int .i64), (.int .u64), (.int .i64), (.int .i64), (.int .i64), (.int .i64), (.int .i64), (.int .i64), (.int .i64)]),
  .one (.sc .slice),
  .one (.agg [.slice, .slice, (.int .u64)]),
  .one (.agg [.slice, .slice, (.int .u64)]),
  .one (.sc .any),
  .one (.sc .any),
  .one (.sc .any),
  .one (.sc .any),
  .one (.sc .any),
  .one (.sc .any),
  .one (.sc .any),
  .one (.sc .any),
  .one (.sc (.int .u64)),
  .one (.sc .any),
  .one (.sc .ptr),
  .one (.sc .any),
  .one (.sc .any),
  .one (.sc .any),
  .tup [(.agg [(.int .i64), (.int .i64), (.int .i64), (.int .i64)]), (.sc .bool)],
  .one (.sc .any),
  .one (.sc .any),
  .one (.sc .any),
  .one (.sc .any),
  .one (.sc .any),
  .one (.sc .any),
  .one (.sc .any),
  .one (.sc .any),
  .one (.sc .any),
  .one (.sc .any),
  .one (.agg [.bool, (.int .i64), .str, (.int .i64), (.int .i64), (.cpx .f64), .slice]),
  .one (.agg [.bool, (.int .i64), .str, (.int .i64), (.int .i64), (.cpx .f64), .slice]),
  .one (.sc .any),
  .one (.sc (.int .i64)),
  .tup [(.sc (.int .i64)), (.sc (.int .i64))],
  .one (.sc .any),
  .one (.sc .any),
  .one (.sc .any),
  .one (.sc .any),
  .one (.sc .any),
  .one (.sc (.int .u32)),
  .one (.sc .any),
  .tup [(.sc (.int .i64)), (.sc (.int .i64)), (.sc .bool)],
  .one (.sc .any),
  .one (.sc .any),
  .one (.sc .any),
  .one (.sc (.int .u64)),
  .one (.sc .any),
  .one (.sc .any),
  .one (.sc .ptr),
  .one (.sc .any),
  .tup [(.sc (.int .i64)), (.sc .bool)],
  .one (.sc .any),
  .one (.sc (.flt .f64)),
  .one (.sc .ptr),
  .one (.sc .any),
  .one (.sc .any),
  .one (.agg [.ptr, .ptr, .ptr, .str]),
  .one (.agg [.ptr, .ptr, .ptr, .str]),
  .one (.agg []),
  .one (.agg []),
  .one (.agg []),
  .one (.sc (.int .u8)),
  .one (.sc (.int .u8)),
  .one (.sc .any),
  .one (.sc .ptr),
  .one (.sc (.int .i32)),
  .one (.sc (.int .i32)),
  .one (.agg [(.int .u64), (.int .u64), (.int .u32), (.int .u8), (.int .u8), (.int .u8), (.int .u8), .any, .ptr, (.int .i32), (.int .i32)]),
  .one (.agg [(.int .u64), (.int .u64), (.int .u32), (.int .u8), (.int .u8), (.int .u8), (.int .u8), .any, .ptr, (.int .i32), (.int .i32)]),
  .one (.sc .any)
  ] t (.one (.sc .any))
end Go.Proofs.YtbhhbnnmdekjiaaGreat.Rd
namespace Go.Proofs.YtbhhbnnmdekjiaaGreat.Rd
open Go.Dn
set_option maxRecDepth 100000
namespace f_slices_ContainsFunc_int_int
noncomputable def body : Code := (Tryz.f58.body).getD .skip
def wp (Aa0 : Option Addr) (na0 ca0 : Nat) (w : World) (Q : Ending → World → Prop) : Prop := Calls Tryz.prog 87 #[.slice Aa0 na0 ca0, .func (.func 88) #[] #[]] w fun e1 w2 => ∃ x3, e1 = .returned (.int .i64 x3) ∧ (Q (.returned (.bool (decide (x3 ≥ 0)))) w2)
def D : Nat → Option DH := dtab []
def tb : List (List Nat × Spec) := []
variable (Aa0 : Option Addr) (na0 ca0 : Nat) (w : World) (Q : Ending → World → Prop)
theorem wp_eq : wp Aa0 na0 ca0 w Q = codeW Tryz.prog hT 9 D (tab tb) [] body (topQ Tryz.prog hT 9 [.tmp 4] Q) (argsF [.slice Aa0 na0 ca0, .func (.func 88) #[] #[]]) w := by kernel_rfl
theorem ok (h : wp Aa0 na0 ca0 w Q) : Calls Tryz.prog 58 #[.slice Aa0 na0 ca0, .func (.func 88) #[] #[]] w Q := by
  rw [wp_eq] at h
  refine calls_of_codeW (c := body) (rs := [.tmp 4]) Tryz.func58 ?_ ?_ ?_ ?_ ?_ (tab_snd (by
    intro x hx
    simp only [tb, List.not_mem_nil] at hx
    )) ?_ h <;> kernel_rfl
end f_slices_ContainsFunc_int_int
namespace f_slices_ContainsFunc_int_int_H
noncomputable def body : Code := (Tryz.f58.body).getD .skip
def wp (Aa0 : Option Addr) (na0 ca0 : Nat) (w : World) (Q : Ending → World → Prop) : Prop := Calls Tryz.prog 87 #[.slice Aa0 na0 ca0, .func (.func 59) #[] #[]] w fun e1 w2 => ∃ x3, e1 = .returned (.int .i64 x3) ∧ (Q (.returned (.bool (decide (x3 ≥ 0)))) w2)
def D : Nat → Option DH := dtab []
def tb : List (List Nat × Spec) := []
variable (Aa0 : Option Addr) (na0 ca0 : Nat) (w : World) (Q : Ending → World → Prop)
theorem wp_eq : wp Aa0 na0 ca0 w Q = codeW Tryz.prog hT 9 D (tab tb) [] body (topQ Tryz.prog hT 9 [.tmp 4] Q) (argsF [.slice Aa0 na0 ca0, .func (.func 59) #[] #[]]) w := by kernel_rfl
theorem ok (h : wp Aa0 na0 ca0 w Q) : Calls Tryz.prog 58 #[.slice Aa0 na0 ca0, .func (.func 59) #[] #[]] w Q := by
  rw [wp_eq] at h
  refine calls_of_codeW (c := body) (rs := [.tmp 4]) Tryz.func58 ?_ ?_ ?_ ?_ ?_ (tab_snd (by
    intro x hx
    simp only [tb, List.not_mem_nil] at hx
    )) ?_ h <;> kernel_rfl
end f_slices_ContainsFunc_int_int_H
namespace f_slices_IndexFunc_int_int
noncomputable def body : Code := (Tryz.f87.body).getD .skip
def l0 : Nat → Option Addr → Nat → Nat → Int → Int → World → (World → Prop) → (Int → World → Prop) → Prop | 0, _, _, _, _, _, _, _, _ => False | k + 1, At0, nt0, ct0, xt7, xt8, w, K0, Kr => sel (decide (xt8 < xt7)) (optB At0 fun a1 => req (decide (0 ≤ xt8 ∧ xt8 < (nt0 : Int))) <| ldI w (a1.add (xt8.toNat * 1)) .i64 fun x2 => Calls Tryz.prog 88 #[.int .i64 x2] w fun e3 w4 => ∃ b5, e3 = .returned (.bool b5) ∧ (sel b5 (Kr xt8 w4) (l0 k At0 nt0 ct0 xt7 (IntKind.i64.wrap (xt8 + 1)) w4 K0 Kr))) (K0 w)
def wp (Aa0 : Option Addr) (na0 ca0 : Nat) (w : World) (Q : Ending → World → Prop) : Prop := ∃ k9, l0 k9 Aa0 na0 ca0 (na0 : Int) 0 w (fun w6 => ∀ _ : Fr, Q (.returned (.int .i64 (-1 : Int))) w6) (fun x7 w8 => ∀ _ : Fr, Q (.returned (.int .i64 x7)) w8)
def D : Nat → Option DH := dtab []
def l0LO : LO := ⟨[], [4], [(0, [])], []⟩
def l0Tk (k : Nat) : Spec := fun Q σ w => gSlice (σ 0) fun At0 nt0 ct0 => gFn (σ 1) 88 <| gInt .i64 (σ 7) fun xt7 => gInt .i64 (σ 8) fun xt8 => l0 k At0 nt0 ct0 xt7 xt8 w (fun w => ∀ d : Fr, Q (.exit 0) (ov d []) w) (fun xq4 w => ∀ d : Fr, Q .ret (ov d [(4, .int .i64 xq4)]) w)
def l0T : Spec := fun Q σ w => ∃ k, l0Tk k Q σ w
def l0tb : List (List Nat × Spec) := []
noncomputable def l0b : Code := (subC [0, 0, 1, 0, 1] body).getD .skip
theorem l0_eq (k : Nat) (At0 : Option Addr) (nt0 ct0 : Nat) (xt7 xt8 : Int) (Q : PQ) (σ : Fr) (w : World) : l0 (k + 1) At0 nt0 ct0 xt7 xt8 w (fun w => ∀ d : Fr, Q (.exit 0) (ov d []) w) (fun xq4 w => ∀ d : Fr, Q .ret (ov d [(4, .int .i64 xq4)]) w) = codeW Tryz.prog hT 19 D (tab l0tb) [0, 0, 1, 0, 1] l0b (thenQ (l0Tk k Q) (widen l0LO Q)) (ov σ [(0, .slice At0 nt0 ct0), (1, .func (.func 88) #[] #[]), (7, .int .i64 xt7), (8, .int .i64 xt8)]) w := by kernel_rfl
theorem l0_snd : ∀ c, subC [0, 1, 0, 1] body = some c → Snd Tryz.prog 19 c l0T := by
  refine loop_of (hT := hT) (D := D) (l := l0tb) (b := l0b) (lo := l0LO) (by kernel_rfl) (by
    intro x hx
    simp only [l0tb, List.not_mem_nil] at hx
    ) (by kernel_rfl) (by kernel_rfl) ?_ ?_
  · intro Q σ w h
    unfold l0Tk at h
    obtain ⟨_, _, _, _, h⟩ := gSlice_elim h
    obtain ⟨_, h⟩ := gFn_elim h
    obtain ⟨_, _, h⟩ := gInt_elim h
    obtain ⟨_, _, h⟩ := gInt_elim h
    exact h
  · intro k Q σ w h
    unfold l0Tk at h
    obtain ⟨At0, nt0, ct0, h0, h⟩ := gSlice_elim h
    obtain ⟨h1, h⟩ := gFn_elim h
    obtain ⟨xt7, h7, h⟩ := gInt_elim h
    obtain ⟨xt8, h8, h⟩ := gInt_elim h
    rw [l0_eq (σ := σ)] at h
    have e : (ov σ [(0, .slice At0 nt0 ct0), (1, .func (.func 88) #[] #[]), (7, .int .i64 xt7), (8, .int .i64 xt8)]) = σ := ov_self (by simp [h0, h1, h7, h8])
    rw [e] at h
    exact h
def tb : List (List Nat × Spec) := [([0, 1, 0, 1], l0T)]
variable (Aa0 : Option Addr) (na0 ca0 : Nat) (w : World) (Q : Ending → World → Prop)
theorem wp_eq : wp Aa0 na0 ca0 w Q = codeW Tryz.prog hT 19 D (tab tb) [] body (topQ Tryz.prog hT 19 [.tmp 4] Q) (argsF [.slice Aa0 na0 ca0, .func (.func 88) #[] #[]]) w := by kernel_rfl
theorem ok (h : wp Aa0 na0 ca0 w Q) : Calls Tryz.prog 87 #[.slice Aa0 na0 ca0, .func (.func 88) #[] #[]] w Q := by
  rw [wp_eq] at h
  refine calls_of_codeW (c := body) (rs := [.tmp 4]) Tryz.func87 ?_ ?_ ?_ ?_ ?_ (tab_snd (by
    intro x hx
    simp only [tb, List.mem_cons, List.not_mem_nil, or_false] at hx
    subst hx
    exact l0_snd)) ?_ h <;> kernel_rfl
end f_slices_IndexFunc_int_int
namespace f_slices_IndexFunc_int_int_H
noncomputable def body : Code := (Tryz.f87.body).getD .skip
def l0 : Nat → Option Addr → Nat → Nat → Int → Int → World → (World → Prop) → (Int → World → Prop) → Prop | 0, _, _, _, _, _, _, _, _ => False | k + 1, At0, nt0, ct0, xt7, xt8, w, K0, Kr => sel (decide (xt8 < xt7)) (optB At0 fun a1 => req (decide (0 ≤ xt8 ∧ xt8 < (nt0 : Int))) <| ldI w (a1.add (xt8.toNat * 1)) .i64 fun x2 => Calls Tryz.prog 59 #[.int .i64 x2] w fun e3 w4 => ∃ b5, e3 = .returned (.bool b5) ∧ (sel b5 (Kr xt8 w4) (l0 k At0 nt0 ct0 xt7 (IntKind.i64.wrap (xt8 + 1)) w4 K0 Kr))) (K0 w)
def wp (Aa0 : Option Addr) (na0 ca0 : Nat) (w : World) (Q : Ending → World → Prop) : Prop := ∃ k9, l0 k9 Aa0 na0 ca0 (na0 : Int) 0 w (fun w6 => ∀ _ : Fr, Q (.returned (.int .i64 (-1 : Int))) w6) (fun x7 w8 => ∀ _ : Fr, Q (.returned (.int .i64 x7)) w8)
def D : Nat → Option DH := dtab []
def l0LO : LO := ⟨[], [4], [(0, [])], []⟩
def l0Tk (k : Nat) : Spec := fun Q σ w => gSlice (σ 0) fun At0 nt0 ct0 => gFn (σ 1) 59 <| gInt .i64 (σ 7) fun xt7 => gInt .i64 (σ 8) fun xt8 => l0 k At0 nt0 ct0 xt7 xt8 w (fun w => ∀ d : Fr, Q (.exit 0) (ov d []) w) (fun xq4 w => ∀ d : Fr, Q .ret (ov d [(4, .int .i64 xq4)]) w)
def l0T : Spec := fun Q σ w => ∃ k, l0Tk k Q σ w
def l0tb : List (List Nat × Spec) := []
noncomputable def l0b : Code := (subC [0, 0, 1, 0, 1] body).getD .skip
theorem l0_eq (k : Nat) (At0 : Option Addr) (nt0 ct0 : Nat) (xt7 xt8 : Int) (Q : PQ) (σ : Fr) (w : World) : l0 (k + 1) At0 nt0 ct0 xt7 xt8 w (fun w => ∀ d : Fr, Q (.exit 0) (ov d []) w) (fun xq4 w => ∀ d : Fr, Q .ret (ov d [(4, .int .i64 xq4)]) w) = codeW Tryz.prog hT 19 D (tab l0tb) [0, 0, 1, 0, 1] l0b (thenQ (l0Tk k Q) (widen l0LO Q)) (ov σ [(0, .slice At0 nt0 ct0), (1, .func (.func 59) #[] #[]), (7, .int .i64 xt7), (8, .int .i64 xt8)]) w := by kernel_rfl
theorem l0_snd : ∀ c, subC [0, 1, 0, 1] body = some c → Snd Tryz.prog 19 c l0T := by
  refine loop_of (hT := hT) (D := D) (l := l0tb) (b := l0b) (lo := l0LO) (by kernel_rfl) (by
    intro x hx
    simp only [l0tb, List.not_mem_nil] at hx
    ) (by kernel_rfl) (by kernel_rfl) ?_ ?_
  · intro Q σ w h
    unfold l0Tk at h
    obtain ⟨_, _, _, _, h⟩ := gSlice_elim h
    obtain ⟨_, h⟩ := gFn_elim h
    obtain ⟨_, _, h⟩ := gInt_elim h
    obtain ⟨_, _, h⟩ := gInt_elim h
    exact h
  · intro k Q σ w h
    unfold l0Tk at h
    obtain ⟨At0, nt0, ct0, h0, h⟩ := gSlice_elim h
    obtain ⟨h1, h⟩ := gFn_elim h
    obtain ⟨xt7, h7, h⟩ := gInt_elim h
    obtain ⟨xt8, h8, h⟩ := gInt_elim h
    rw [l0_eq (σ := σ)] at h
    have e : (ov σ [(0, .slice At0 nt0 ct0), (1, .func (.func 59) #[] #[]), (7, .int .i64 xt7), (8, .int .i64 xt8)]) = σ := ov_self (by simp [h0, h1, h7, h8])
    rw [e] at h
    exact h
def tb : List (List Nat × Spec) := [([0, 1, 0, 1], l0T)]
variable (Aa0 : Option Addr) (na0 ca0 : Nat) (w : World) (Q : Ending → World → Prop)
theorem wp_eq : wp Aa0 na0 ca0 w Q = codeW Tryz.prog hT 19 D (tab tb) [] body (topQ Tryz.prog hT 19 [.tmp 4] Q) (argsF [.slice Aa0 na0 ca0, .func (.func 59) #[] #[]]) w := by kernel_rfl
theorem ok (h : wp Aa0 na0 ca0 w Q) : Calls Tryz.prog 87 #[.slice Aa0 na0 ca0, .func (.func 59) #[] #[]] w Q := by
  rw [wp_eq] at h
  refine calls_of_codeW (c := body) (rs := [.tmp 4]) Tryz.func87 ?_ ?_ ?_ ?_ ?_ (tab_snd (by
    intro x hx
    simp only [tb, List.mem_cons, List.not_mem_nil, or_false] at hx
    subst hx
    exact l0_snd)) ?_ h <;> kernel_rfl
end f_slices_IndexFunc_int_int_H
namespace f_hdt_badId_1
noncomputable def body : Code := (Tryz.f59.body).getD .skip
def wp (xa0 : Int) (w : World) (Q : Ending → World → Prop) : Prop := sel (decide (xa0 < 1)) (Q (.returned (.bool true)) w) (Q (.returned (.bool (decide (xa0 > 2147483647)))) w)
def D : Nat → Option DH := dtab []
def tb : List (List Nat × Spec) := []
variable (xa0 : Int) (w : World) (Q : Ending → World → Prop)
theorem wp_eq : wp xa0 w Q = codeW Tryz.prog hT 9 D (tab tb) [] body (topQ Tryz.prog hT 9 [.tmp 2] Q) (argsF [.int .i64 xa0]) w := by kernel_rfl
theorem ok (h : wp xa0 w Q) : Calls Tryz.prog 59 #[.int .i64 xa0] w Q := by
  rw [wp_eq] at h
  refine calls_of_codeW (c := body) (rs := [.tmp 2]) Tryz.func59 ?_ ?_ ?_ ?_ ?_ (tab_snd (by
    intro x hx
    simp only [tb, List.not_mem_nil] at hx
    )) ?_ h <;> kernel_rfl
end f_hdt_badId_1
namespace f_euler_badId_1
noncomputable def body : Code := (Tryz.f88.body).getD .skip
def wp (xa0 : Int) (w : World) (Q : Ending → World → Prop) : Prop := sel (decide (xa0 < 1)) (Q (.returned (.bool true)) w) (Q (.returned (.bool (decide (xa0 > 2147483647)))) w)
def D : Nat → Option DH := dtab []
def tb : List (List Nat × Spec) := []
variable (xa0 : Int) (w : World) (Q : Ending → World → Prop)
theorem wp_eq : wp xa0 w Q = codeW Tryz.prog hT 9 D (tab tb) [] body (topQ Tryz.prog hT 9 [.tmp 2] Q) (argsF [.int .i64 xa0]) w := by kernel_rfl
theorem ok (h : wp xa0 w Q) : Calls Tryz.prog 88 #[.int .i64 xa0] w Q := by
  rw [wp_eq] at h
  refine calls_of_codeW (c := body) (rs := [.tmp 2]) Tryz.func88 ?_ ?_ ?_ ?_ ?_ (tab_snd (by
    intro x hx
    simp only [tb, List.not_mem_nil] at hx
    )) ?_ h <;> kernel_rfl
end f_euler_badId_1
namespace f_euler_load
noncomputable def body : Code := (Tryz.f80.body).getD .skip
def od1 : OD := ⟨[0], [0, 1, 3, 5], fun i => ([⟨true, [], [], fun _ _ => undef⟩,
  ⟨true, [], [], fun _ _ => undef⟩,
  ⟨false, [], [], fun ps vs => match ps, vs with | [.slice Ap0 np0 cp0], [] => .slice Ap0 np0 cp0 | _, _ => undef⟩,
  ⟨true, [1], [1, 2], fun _ _ => undef⟩,
  ⟨false, [0, 1, 3], [0, 3], fun ps vs => match ps, vs with | [.slice Ap0 np0 cp0], [.slice Ae0 ne0 ce0, .slice Ae1 ne1 ce1, .slice Ae3 ne3 ce3] => .agg #[.slice Ae0 ne0 ce0, .slice Ae3 ne3 ce3, .int .u64 11400714819323198485] | _, _ => undef⟩,
  ⟨true, [0, 1, 3], [4], fun _ _ => undef⟩,
  ⟨false, [0, 1, 3, 5], [5], fun ps vs => match ps, vs with | [.slice Ap0 np0 cp0], [.slice Ae0 ne0 ce0, .slice Ae1 ne1 ce1, .slice Ae3 ne3 ce3, .pointer (some ae5)] => .pointer (some ae5) | _, _ => undef⟩] : List OI).getD i ⟨true, [], [], fun _ _ => undef⟩, fun i => ([(.one (.sc .slice)), (.one (.sc .slice)), .one (.sc .any), (.one (.sc .slice)), .one (.sc .any), (.one (.sc .ad)), .one (.sc .any)] : List OS).getD i (.one (.sc .any))⟩
def h1 (Ap0 : Option Addr) (np0 cp0 : Nat) : Prop := (∀ (_ : Fr) (w : World), w = w ∧ (.slice Ap0 np0 cp0 : Value) = (.slice Ap0 np0 cp0)) ∧ (∀ (_ : Fr) (w : World), ∀ (Ae0 : Option Addr) (ne0 ce0 : Nat), ∀ (Ae1 : Option Addr) (ne1 ce1 : Nat), ∀ (Ae3 : Option Addr) (ne3 ce3 : Nat), w = w ∧ (.agg #[.slice Ae0 ne0 ce0, .slice Ae3 ne3 ce3, .int .u64 11400714819323198485] : Value) = (.agg #[.slice Ae0 ne0 ce0, .slice Ae3 ne3 ce3, .int .u64 11400714819323198485])) ∧ (∀ (_ : Fr) (w : World), ∀ (Ae0 : Option Addr) (ne0 ce0 : Nat), ∀ (Ae1 : Option Addr) (ne1 ce1 : Nat), ∀ (Ae3 : Option Addr) (ne3 ce3 : Nat), ∀ (ae5 : Addr), w = w ∧ (.pointer (some ae5) : Value) = (.pointer (some ae5))) ∧ True
theorem h1_ok (Ap0 : Option Addr) (np0 cp0 : Nat) : h1 Ap0 np0 cp0 := ⟨fun _ w => ⟨rfl, rfl⟩, fun _ w _ _ _ _ _ _ _ _ _ => ⟨rfl, rfl⟩, fun _ w _ _ _ _ _ _ _ _ _ _ => ⟨rfl, rfl⟩, trivial⟩
def wp (Aa0 : Option Addr) (na0 ca0 : Nat) (w : World) (Q : Ending → World → Prop) : Prop := drW w fun w1 => h1 Aa0 na0 ca0 ∧ ∃ (G2 : World → World → Prop) (Φ3 : Nat → Value → World → Prop), (∀ w, G2 w w) ∧ (∀ a b c, G2 a b → G2 b c → G2 a c) ∧ (∀ i v a b, G2 w1 a → G2 a b → Φ3 i v a → Φ3 i v b) ∧ ((∀ (_ : Fr) (w4 : World), G2 w1 w4 → (Runs Tryz.prog (Instr.makeSlice 144 (.int .i64 1) (.int .i64 1)) w4 fun v6 w5 => ∃ A7 n7 c7, v6 = (.slice A7 n7 c7) ∧ (G2 w4 w5 ∧ Φ3 0 (.slice A7 n7 c7) w5))) ∧ (∀ (_ : Fr) (w8 : World), G2 w1 w8 → (alW w8 (.cells #[] 3) fun B9 w10 => G2 w8 w10 ∧ Φ3 1 (.slice (some ⟨B9, 0, none⟩) 0 0) w10)) ∧ (∀ (_ : Fr) (w11 : World), G2 w1 w11 → ∀ (Ae1 : Option Addr) (ne1 ce1 : Nat), Φ3 1 (.slice Ae1 ne1 ce1) w11 → (Runs Tryz.prog (Builtin.append_ #[22, 22] 22 #[.slice Ae1 ne1 ce1, .slice Aa0 na0 ca0]) w11 fun v13 w12 => ∃ A14 n14 c14, v13 = (.slice A14 n14 c14) ∧ (G2 w11 w12 ∧ Φ3 3 (.slice A14 n14 c14) w12))) ∧ (∀ (_ : Fr) (w15 : World), G2 w1 w15 → ∀ (Ae0 : Option Addr) (ne0 ce0 : Nat), Φ3 0 (.slice Ae0 ne0 ce0) w15 → ∀ (Ae1 : Option Addr) (ne1 ce1 : Nat), Φ3 1 (.slice Ae1 ne1 ce1) w15 → ∀ (Ae3 : Option Addr) (ne3 ce3 : Nat), Φ3 3 (.slice Ae3 ne3 ce3) w15 → (alW w15 (.cells #[.slice Ae0 ne0 ce0, .slice Ae3 ne3 ce3, .int .u64 11400714819323198485] 146) fun B16 w17 => G2 w15 w17 ∧ Φ3 5 (.pointer (some ⟨B16, 0, none⟩)) w17)) ∧ True) ∧ ∀ w18, G2 w1 w18 → ∀ (Ae0 : Option Addr) (ne0 ce0 : Nat), Φ3 0 (.slice Ae0 ne0 ce0) w18 → ∀ (Ae1 : Option Addr) (ne1 ce1 : Nat), Φ3 1 (.slice Ae1 ne1 ce1) w18 → ∀ (Ae3 : Option Addr) (ne3 ce3 : Nat), Φ3 3 (.slice Ae3 ne3 ce3) w18 → ∀ (ae5 : Addr), Φ3 5 (.pointer (some ae5)) w18 → (Q (.returned (.pointer (some ae5))) w18)
def D : Nat → Option DH := dtab [(1, .opn od1)]
def tb : List (List Nat × Spec) := []
variable (Aa0 : Option Addr) (na0 ca0 : Nat) (w : World) (Q : Ending → World → Prop)
theorem wp_eq : wp Aa0 na0 ca0 w Q = codeW Tryz.prog hT 9 D (tab tb) [] body (topQ Tryz.prog hT 9 [.tmp 2] Q) (argsF [.slice Aa0 na0 ca0]) w := by kernel_rfl
theorem ok (h : wp Aa0 na0 ca0 w Q) : Calls Tryz.prog 80 #[.slice Aa0 na0 ca0] w Q := by
  rw [wp_eq] at h
  refine calls_of_codeW (c := body) (rs := [.tmp 2]) Tryz.func80 ?_ ?_ ?_ ?_ ?_ (tab_snd (by
    intro x hx
    simp only [tb, List.not_mem_nil] at hx
    )) ?_ h <;> kernel_rfl
end f_euler_load
namespace f_euler_load_Size
noncomputable def body : Code := (Tryz.f81.body).getD .skip
def wp (aa0 : Addr) (xa1 : Int) (w : World) (Q : Ending → World → Prop) : Prop := alW w (.cells #[.int .i64 xa1] 3) fun B1 w2 => Calls Tryz.prog 82 #[.pointer (some aa0), .slice (some ⟨B1, 0, none⟩) 1 1] w2 fun e3 w4 => ∃ b5, e3 = .returned (.bool b5) ∧ (sel b5 (Q (.returned (.tuple #[.int .i64 0, .int .i64 150])) w4) (drW w4 fun w6 => ∃ S7 : World → Prop, S7 w6 ∧ (hdS S7 aa0 fun A8 n8 c8 => Calls Tryz.prog 83 #[.pointer (some aa0), .int .i64 xa1] w6 fun e9 w10 => ∃ x11, e9 = .returned (.int .i64 x11) ∧ (S7 w10 ∧ (optB A8 fun a12 => req (decide (0 ≤ x11 ∧ x11 < (n8 : Int))) <| hdI S7 ((a12.add (x11.toNat * 11)).add 4) .i64 fun x13 => Q (.returned (.tuple #[.int .i64 x13, .int .i64 0])) w10)))))
def D : Nat → Option DH := dtab [(3, .held [.fst 0, .fst 1, .fst 2, .fst 3, .fst 4, .fst 5, .eff 6, .fst 7, .fst 8, .fst 9] [.fst 10, .fst 11])]
def tb : List (List Nat × Spec) := []
variable (aa0 : Addr) (xa1 : Int) (w : World) (Q : Ending → World → Prop)
theorem wp_eq : wp aa0 xa1 w Q = codeW Tryz.prog hT 20 D (tab tb) [] body (topQ Tryz.prog hT 20 [.tmp 4, .tmp 5] Q) (argsF [.pointer (some aa0), .int .i64 xa1]) w := by kernel_rfl
theorem ok (h : wp aa0 xa1 w Q) : Calls Tryz.prog 81 #[.pointer (some aa0), .int .i64 xa1] w Q := by
  rw [wp_eq] at h
  refine calls_of_codeW (c := body) (rs := [.tmp 4, .tmp 5]) Tryz.func81 ?_ ?_ ?_ ?_ ?_ (tab_snd (by
    intro x hx
    simp only [tb, List.not_mem_nil] at hx
    )) ?_ h <;> kernel_rfl
end f_euler_load_Size
namespace f_euler_load_bad
noncomputable def body : Code := (Tryz.f82.body).getD .skip
def l0 : Nat → Addr → Option Addr → Nat → Nat → Int → Int → World → (World → Prop) → (Bool → World → Prop) → Prop | 0, _, _, _, _, _, _, _, _, _ => False | k + 1, at0, At7, nt7, ct7, xt8, xt9, w, K0, Kr => sel (decide (xt9 < xt8)) (optB At7 fun a1 => req (decide (0 ≤ xt9 ∧ xt9 < (nt7 : Int))) <| ldI w (a1.add (xt9.toNat * 1)) .i64 fun x2 => sel (decide (x2 < 1)) (Kr true w) (ldS w at0 fun A3 n3 c3 => sel (decide (x2 ≥ (n3 : Int))) (Kr true w) (l0 k at0 At7 nt7 ct7 xt8 (IntKind.i64.wrap (xt9 + 1)) w K0 Kr))) (K0 w)
def wp (aa0 : Addr) (Aa1 : Option Addr) (na1 ca1 : Nat) (w : World) (Q : Ending → World → Prop) : Prop := ∃ k7, l0 k7 aa0 Aa1 na1 ca1 (na1 : Int) 0 w (fun w4 => ∀ _ : Fr, Q (.returned (.bool false)) w4) (fun b5 w6 => ∀ _ : Fr, Q (.returned (.bool b5)) w6)
def D : Nat → Option DH := dtab []
def l0LO : LO := ⟨[], [4], [(0, [])], []⟩
def l0Tk (k : Nat) : Spec := fun Q σ w => gAd (σ 0) fun at0 => gSlice (σ 7) fun At7 nt7 ct7 => gInt .i64 (σ 8) fun xt8 => gInt .i64 (σ 9) fun xt9 => l0 k at0 At7 nt7 ct7 xt8 xt9 w (fun w => ∀ d : Fr, Q (.exit 0) (ov d []) w) (fun bq4 w => ∀ d : Fr, Q .ret (ov d [(4, .bool bq4)]) w)
def l0T : Spec := fun Q σ w => ∃ k, l0Tk k Q σ w
def l0tb : List (List Nat × Spec) := []
noncomputable def l0b : Code := (subC [0, 0, 1, 0, 1] body).getD .skip
theorem l0_eq (k : Nat) (at0 : Addr) (At7 : Option Addr) (nt7 ct7 : Nat) (xt8 xt9 : Int) (Q : PQ) (σ : Fr) (w : World) : l0 (k + 1) at0 At7 nt7 ct7 xt8 xt9 w (fun w => ∀ d : Fr, Q (.exit 0) (ov d []) w) (fun bq4 w => ∀ d : Fr, Q .ret (ov d [(4, .bool bq4)]) w) = codeW Tryz.prog hT 25 D (tab l0tb) [0, 0, 1, 0, 1] l0b (thenQ (l0Tk k Q) (widen l0LO Q)) (ov σ [(0, .pointer (some at0)), (7, .slice At7 nt7 ct7), (8, .int .i64 xt8), (9, .int .i64 xt9)]) w := by kernel_rfl
theorem l0_snd : ∀ c, subC [0, 1, 0, 1] body = some c → Snd Tryz.prog 25 c l0T := by
  refine loop_of (hT := hT) (D := D) (l := l0tb) (b := l0b) (lo := l0LO) (by kernel_rfl) (by
    intro x hx
    simp only [l0tb, List.not_mem_nil] at hx
    ) (by kernel_rfl) (by kernel_rfl) ?_ ?_
  · intro Q σ w h
    unfold l0Tk at h
    obtain ⟨_, _, h⟩ := gAd_elim h
    obtain ⟨_, _, _, _, h⟩ := gSlice_elim h
    obtain ⟨_, _, h⟩ := gInt_elim h
    obtain ⟨_, _, h⟩ := gInt_elim h
    exact h
  · intro k Q σ w h
    unfold l0Tk at h
    obtain ⟨at0, h0, h⟩ := gAd_elim h
    obtain ⟨At7, nt7, ct7, h7, h⟩ := gSlice_elim h
    obtain ⟨xt8, h8, h⟩ := gInt_elim h
    obtain ⟨xt9, h9, h⟩ := gInt_elim h
    rw [l0_eq (σ := σ)] at h
    have e : (ov σ [(0, .pointer (some at0)), (7, .slice At7 nt7 ct7), (8, .int .i64 xt8), (9, .int .i64 xt9)]) = σ := ov_self (by simp [h0, h7, h8, h9])
    rw [e] at h
    exact h
def tb : List (List Nat × Spec) := [([0, 1, 0, 1], l0T)]
variable (aa0 : Addr) (Aa1 : Option Addr) (na1 ca1 : Nat) (w : World) (Q : Ending → World → Prop)
theorem wp_eq : wp aa0 Aa1 na1 ca1 w Q = codeW Tryz.prog hT 25 D (tab tb) [] body (topQ Tryz.prog hT 25 [.tmp 4] Q) (argsF [.pointer (some aa0), .slice Aa1 na1 ca1]) w := by kernel_rfl
theorem ok (h : wp aa0 Aa1 na1 ca1 w Q) : Calls Tryz.prog 82 #[.pointer (some aa0), .slice Aa1 na1 ca1] w Q := by
  rw [wp_eq] at h
  refine calls_of_codeW (c := body) (rs := [.tmp 4]) Tryz.func82 ?_ ?_ ?_ ?_ ?_ (tab_snd (by
    intro x hx
    simp only [tb, List.mem_cons, List.not_mem_nil, or_false] at hx
    subst hx
    exact l0_snd)) ?_ h <;> kernel_rfl
end f_euler_load_bad
namespace f_euler_load_root
noncomputable def body : Code := (Tryz.f83.body).getD .skip
def l0 : Nat → Addr → Int → World → (Int → World → Prop) → Prop | 0, _, _, _, _ => False | k + 1, at0, xt1, w, K0 => ldS w at0 fun A1 n1 c1 => optB A1 fun a2 => req (decide (0 ≤ xt1 ∧ xt1 < (n1 : Int))) <| ldI w ((a2.add (xt1.toNat * 11)).add 2) .i64 fun x3 => sel (decide (x3 > 0)) (ldS w at0 fun A4 n4 c4 => optB A4 fun a5 => req (decide (0 ≤ xt1 ∧ xt1 < (n4 : Int))) <| ldI w ((a5.add (xt1.toNat * 11)).add 2) .i64 fun x6 => l0 k at0 x6 w K0) (K0 xt1 w)
def wp (aa0 : Addr) (xa1 : Int) (w : World) (Q : Ending → World → Prop) : Prop := ∃ k9, l0 k9 aa0 xa1 w (fun x7 w8 => ∀ _ : Fr, Q (.returned (.int .i64 x7)) w8)
def D : Nat → Option DH := dtab []
def l0LO : LO := ⟨[], [], [(0, [1])], []⟩
def l0Tk (k : Nat) : Spec := fun Q σ w => gAd (σ 0) fun at0 => gInt .i64 (σ 1) fun xt1 => l0 k at0 xt1 w (fun xq1 w => ∀ d : Fr, Q (.exit 0) (ov d [(1, .int .i64 xq1)]) w)
def l0T : Spec := fun Q σ w => ∃ k, l0Tk k Q σ w
def l0tb : List (List Nat × Spec) := []
noncomputable def l0b : Code := (subC [0, 0, 0, 1] body).getD .skip
theorem l0_eq (k : Nat) (at0 : Addr) (xt1 : Int) (Q : PQ) (σ : Fr) (w : World) : l0 (k + 1) at0 xt1 w (fun xq1 w => ∀ d : Fr, Q (.exit 0) (ov d [(1, .int .i64 xq1)]) w) = codeW Tryz.prog hT 23 D (tab l0tb) [0, 0, 0, 1] l0b (thenQ (l0Tk k Q) (widen l0LO Q)) (ov σ [(0, .pointer (some at0)), (1, .int .i64 xt1)]) w := by kernel_rfl
theorem l0_snd : ∀ c, subC [0, 0, 1] body = some c → Snd Tryz.prog 23 c l0T := by
  refine loop_of (hT := hT) (D := D) (l := l0tb) (b := l0b) (lo := l0LO) (by kernel_rfl) (by
    intro x hx
    simp only [l0tb, List.not_mem_nil] at hx
    ) (by kernel_rfl) (by kernel_rfl) ?_ ?_
  · intro Q σ w h
    unfold l0Tk at h
    obtain ⟨_, _, h⟩ := gAd_elim h
    obtain ⟨_, _, h⟩ := gInt_elim h
    exact h
  · intro k Q σ w h
    unfold l0Tk at h
    obtain ⟨at0, h0, h⟩ := gAd_elim h
    obtain ⟨xt1, h1, h⟩ := gInt_elim h
    rw [l0_eq (σ := σ)] at h
    have e : (ov σ [(0, .pointer (some at0)), (1, .int .i64 xt1)]) = σ := ov_self (by simp [h0, h1])
    rw [e] at h
    exact h
def tb : List (List Nat × Spec) := [([0, 0, 1], l0T)]
variable (aa0 : Addr) (xa1 : Int) (w : World) (Q : Ending → World → Prop)
theorem wp_eq : wp aa0 xa1 w Q = codeW Tryz.prog hT 23 D (tab tb) [] body (topQ Tryz.prog hT 23 [.tmp 4] Q) (argsF [.pointer (some aa0), .int .i64 xa1]) w := by kernel_rfl
theorem ok (h : wp aa0 xa1 w Q) : Calls Tryz.prog 83 #[.pointer (some aa0), .int .i64 xa1] w Q := by
  rw [wp_eq] at h
  refine calls_of_codeW (c := body) (rs := [.tmp 4]) Tryz.func83 ?_ ?_ ?_ ?_ ?_ (tab_snd (by
    intro x hx
    simp only [tb, List.mem_cons, List.not_mem_nil, or_false] at hx
    subst hx
    exact l0_snd)) ?_ h <;> kernel_rfl
end f_euler_load_root
namespace f_euler_load_List
noncomputable def body : Code := (Tryz.f84.body).getD .skip
def wp (aa0 : Addr) (xa1 : Int) (w : World) (Q : Ending → World → Prop) : Prop := alW w (.cells #[.int .i64 xa1] 3) fun B1 w2 => Calls Tryz.prog 82 #[.pointer (some aa0), .slice (some ⟨B1, 0, none⟩) 1 1] w2 fun e3 w4 => ∃ b5, e3 = .returned (.bool b5) ∧ (sel b5 (Q (.returned (.tuple #[.slice none 0 0, .int .i64 150])) w4) (Calls Tryz.prog 83 #[.pointer (some aa0), .int .i64 xa1] w4 fun e6 w7 => ∃ x8, e6 = .returned (.int .i64 x8) ∧ (Calls Tryz.prog 104 #[.pointer (some aa0), .int .i64 x8, .slice none 0 0] w7 fun e9 w10 => ∃ A11 n11 c11, e9 = .returned (.slice A11 n11 c11) ∧ (Q (.returned (.tuple #[.slice A11 n11 c11, .int .i64 0])) w10))))
def D : Nat → Option DH := dtab []
def tb : List (List Nat × Spec) := []
variable (aa0 : Addr) (xa1 : Int) (w : World) (Q : Ending → World → Prop)
theorem wp_eq : wp aa0 xa1 w Q = codeW Tryz.prog hT 15 D (tab tb) [] body (topQ Tryz.prog hT 15 [.tmp 4, .tmp 5] Q) (argsF [.pointer (some aa0), .int .i64 xa1]) w := by kernel_rfl
theorem ok (h : wp aa0 xa1 w Q) : Calls Tryz.prog 84 #[.pointer (some aa0), .int .i64 xa1] w Q := by
  rw [wp_eq] at h
  refine calls_of_codeW (c := body) (rs := [.tmp 4, .tmp 5]) Tryz.func84 ?_ ?_ ?_ ?_ ?_ (tab_snd (by
    intro x hx
    simp only [tb, List.not_mem_nil] at hx
    )) ?_ h <;> kernel_rfl
end f_euler_load_List
namespace f_euler_load_Make
noncomputable def body : Code := (Tryz.f89.body).getD .skip
def wp (aa0 : Addr) (xa1_0 xa1_1 xa1_2 : Int) (w : World) (Q : Ending → World → Prop) : Prop := alW w (.cells #[.int .i64 xa1_0, .int .i64 xa1_1, .int .i64 xa1_2] 110) fun B1 w2 => ldS w2 aa0 fun A3 n3 c3 => sel (decide ((n3 : Int) > 65536)) (Q (.returned (.tuple #[.int .i64 0, .int .i64 55])) w2) (drW w2 fun w4 => ∃ S5 : World → Prop, S5 w4 ∧ (hdS S5 aa0 fun A6 n6 c6 => hdI S5 ⟨B1, 0, none⟩ .i64 fun x7 => hdI S5 (.add ⟨B1, 0, none⟩ 1) .i64 fun x8 => hdI S5 (.add ⟨B1, 0, none⟩ 2) .i64 fun x9 => hdI S5 ⟨B1, 0, none⟩ .i64 fun x10 => hdI S5 (.add ⟨B1, 0, none⟩ 1) .i64 fun x11 => hdI S5 (.add ⟨B1, 0, none⟩ 2) .i64 fun x12 => Calls Tryz.prog 107 #[.pointer (some aa0)] w4 fun e13 w14 => ∃ x15, e13 = .returned (.int .u64 x15) ∧ (S5 w14 ∧ (alW w14 (.cells #[.int .i64 0, .int .i64 0, .int .i64 0, .int .u64 x15, .int .i64 1, .int .i64 x7, .int .i64 x8, .int .i64 x9, .int .i64 x10, .int .i64 x11, .int .i64 x12] 143) fun B16 w17 => S5 w17 ∧ (Runs Tryz.prog (Builtin.append_ #[144, 144] 144 #[.slice A6 n6 c6, .slice (some ⟨B16, 0, none⟩) 1 1]) w17 fun v19 w18 => ∃ A20 n20 c20, v19 = (.slice A20 n20 c20) ∧ (S5 w18 ∧ (stW w18 aa0 (.slice A20 n20 c20) fun w21 => ldS w21 aa0 fun A22 n22 c22 => Q (.returned (.tuple #[.int .i64 (IntKind.i64.wrap ((n22 : Int) - 1)), .int .i64 0])) w21)))))))
def D : Nat → Option DH := dtab [(3, .held [.fst 0, .fst 1, .fst 2, .fst 3, .fst 4, .fst 5, .fst 7, .fst 8, .eff 6, .fst 9, .eff 10, .eff 11] [.fst 12, .fst 13, .eff 14])]
def tb : List (List Nat × Spec) := []
variable (aa0 : Addr) (xa1_0 xa1_1 xa1_2 : Int) (w : World) (Q : Ending → World → Prop)
theorem wp_eq : wp aa0 xa1_0 xa1_1 xa1_2 w Q = codeW Tryz.prog hT 32 D (tab tb) [] body (topQ Tryz.prog hT 32 [.tmp 4, .tmp 5] Q) (argsF [.pointer (some aa0), .agg #[.int .i64 xa1_0, .int .i64 xa1_1, .int .i64 xa1_2]]) w := by kernel_rfl
theorem ok (h : wp aa0 xa1_0 xa1_1 xa1_2 w Q) : Calls Tryz.prog 89 #[.pointer (some aa0), .agg #[.int .i64 xa1_0, .int .i64 xa1_1, .int .i64 xa1_2]] w Q := by
  rw [wp_eq] at h
  refine calls_of_codeW (c := body) (rs := [.tmp 4, .tmp 5]) Tryz.func89 ?_ ?_ ?_ ?_ ?_ (tab_snd (by
    intro x hx
    simp only [tb, List.not_mem_nil] at hx
    )) ?_ h <;> kernel_rfl
end f_euler_load_Make
namespace f_euler_load_At
noncomputable def body : Code := (Tryz.f90.body).getD .skip
def j1 (at0 : Addr) (xt2 xt8 : Int) (w : World) (Kg0 : Int → Int → World → Prop) (Kr : Int → Int → World → Prop) : Prop := drW w fun w12 => ldS w12 at0 fun A14 n14 c14 => ldS w12 at0 fun A15 n15 c15 => optB A15 fun a16 => req (decide (0 ≤ xt8 ∧ xt8 < (n15 : Int))) <| ldI w12 (a16.add (xt8.toNat * 11)) .i64 fun x17 => optB A14 fun a18 => req (decide (0 ≤ x17 ∧ x17 < (n14 : Int))) <| ldI w12 ((a18.add (x17.toNat * 11)).add 4) .i64 fun x19 => sel (decide (xt2 < x19)) (ldS w12 at0 fun A20 n20 c20 => optB A20 fun a21 => req (decide (0 ≤ xt8 ∧ xt8 < (n20 : Int))) <| ldI w12 (a21.add (xt8.toNat * 11)) .i64 fun x22 => Kg0 xt2 x22 w12) (sel (decide (xt2 > x19)) (ldS w12 at0 fun A23 n23 c23 => optB A23 fun a24 => req (decide (0 ≤ xt8 ∧ xt8 < (n23 : Int))) <| ldI w12 ((a24.add (xt8.toNat * 11)).add 1) .i64 fun x25 => Kg0 (IntKind.i64.wrap ((IntKind.i64.wrap (xt2 - x19)) - 1)) x25 w12) (Kr xt8 0 w12))
def g0 : Nat → Addr → Int → Int → World → (Int → Int → World → Prop) → Prop | 0, _, _, _, _, _ => False | k + 1, at0, xt2, xt8, w, Kr => j1 at0 xt2 xt8 w (fun xr2 xr8 w => ∀ _ : Fr, g0 k at0 xr2 xr8 w Kr) Kr
def s0 (at0 : Addr) (xt1 xt2 : Int) (w : World) (Kr : Int → Int → World → Prop) : Prop := alW w (.cells #[.int .i64 xt1] 3) fun B1 w2 => Calls Tryz.prog 82 #[.pointer (some at0), .slice (some ⟨B1, 0, none⟩) 1 1] w2 fun e3 w4 => ∃ b5, e3 = .returned (.bool b5) ∧ (sel b5 (Kr 0 150 w4) (Calls Tryz.prog 83 #[.pointer (some at0), .int .i64 xt1] w4 fun e6 w7 => ∃ x8, e6 = .returned (.int .i64 x8) ∧ (sel (decide (xt2 < 0)) (Kr 0 1 w7) (ldS w7 at0 fun A9 n9 c9 => optB A9 fun a10 => req (decide (0 ≤ x8 ∧ x8 < (n9 : Int))) <| ldI w7 ((a10.add (x8.toNat * 11)).add 4) .i64 fun x11 => sel (decide (xt2 ≥ x11)) (Kr 0 1 w7) (j1 at0 xt2 x8 w7 (fun x26 x27 w28 => ∀ _ : Fr, ∃ k29, g0 k29 at0 x26 x27 w28 Kr) (fun x30 x31 w32 => ∀ _ : Fr, Kr x30 x31 w32))))))
def wp (aa0 : Addr) (xa1 xa2 : Int) (w : World) (Q : Ending → World → Prop) : Prop := s0 aa0 xa1 xa2 w (fun x33 x34 w35 => ∀ _ : Fr, Q (.returned (.tuple #[.int .i64 x33, .int .i64 x34])) w35)
def D : Nat → Option DH := dtab [(6, .simple [.fst 0, .fst 1, .fst 2, .fst 3, .fst 4, .fst 5, .fst 6, .fst 7, .fst 8, .fst 9, .fst 10, .fst 11, .fst 12, .fst 13, .fst 14] [.fst 15])]
def j1LO : LO := ⟨[], [6, 7], [], [(0, [0, 2, 8])]⟩
def j1T : Spec := fun Q σ w => gAd (σ 0) fun at0 => gInt .i64 (σ 2) fun xt2 => gInt .i64 (σ 8) fun xt8 => j1 at0 xt2 xt8 w (fun xq2 xq8 w => ∀ d : Fr, Q (.goto 0) (ov d [(0, .pointer (some at0)), (2, .int .i64 xq2), (8, .int .i64 xq8)]) w) (fun xq6 xq7 w => ∀ d : Fr, Q .ret (ov d [(6, .int .i64 xq6), (7, .int .i64 xq7)]) w)
def j1tb : List (List Nat × Spec) := []
noncomputable def j1b : Code := (subC [1, 1, 1, 1, 0, 1] body).getD .skip
theorem j1_eq (at0 : Addr) (xt2 xt8 : Int) (Q : PQ) (σ : Fr) (w : World) : j1 at0 xt2 xt8 w (fun xq2 xq8 w => ∀ d : Fr, Q (.goto 0) (ov d [(0, .pointer (some at0)), (2, .int .i64 xq2), (8, .int .i64 xq8)]) w) (fun xq6 xq7 w => ∀ d : Fr, Q .ret (ov d [(6, .int .i64 xq6), (7, .int .i64 xq7)]) w) = codeW Tryz.prog hT 73 D (tab j1tb) [1, 1, 1, 1, 0, 1] j1b (widen j1LO Q) (ov σ [(0, .pointer (some at0)), (2, .int .i64 xt2), (8, .int .i64 xt8)]) w := by kernel_rfl
theorem j1_snd : ∀ c, subC [1, 1, 1, 1, 0, 1] body = some c → Snd Tryz.prog 73 c j1T := by
  refine cut_of (hT := hT) (D := D) (l := j1tb) (b := j1b) (lo := j1LO) (by kernel_rfl) (by
    intro x hx
    simp only [j1tb, List.not_mem_nil] at hx
    ) (by kernel_rfl) (by kernel_rfl) ?_
  intro Q σ w h
  unfold j1T at h
  obtain ⟨at0, h0, h⟩ := gAd_elim h
  obtain ⟨xt2, h2, h⟩ := gInt_elim h
  obtain ⟨xt8, h8, h⟩ := gInt_elim h
  rw [j1_eq (σ := σ)] at h
  have e : (ov σ [(0, .pointer (some at0)), (2, .int .i64 xt2), (8, .int .i64 xt8)]) = σ := ov_self (by simp [h0, h2, h8])
  rw [e] at h
  exact h
def s0LO : LO := ⟨[], [6, 7], [], []⟩
def s0T : Spec := fun Q σ w => gAd (σ 0) fun at0 => gInt .i64 (σ 1) fun xt1 => gInt .i64 (σ 2) fun xt2 => s0 at0 xt1 xt2 w (fun xq6 xq7 w => ∀ d : Fr, Q .ret (ov d [(6, .int .i64 xq6), (7, .int .i64 xq7)]) w)
def s0tb : List (List Nat × Spec) := [([1, 1, 1, 1, 0, 1], j1T)]
def g0Tk (k : Nat) : Spec := fun Q σ w => gAd (σ 0) fun at0 => gInt .i64 (σ 2) fun xt2 => gInt .i64 (σ 8) fun xt8 => g0 k at0 xt2 xt8 w (fun xq6 xq7 w => ∀ d : Fr, Q .ret (ov d [(6, .int .i64 xq6), (7, .int .i64 xq7)]) w)
theorem g0_eq (k : Nat) (at0 : Addr) (xt2 xt8 : Int) (Q : PQ) (σ : Fr) (w : World) :
    g0 (k + 1) at0 xt2 xt8 w (fun xq6 xq7 w => ∀ d : Fr, Q .ret (ov d [(6, .int .i64 xq6), (7, .int .i64 xq7)]) w) = j1T (gotoQ 0 (g0Tk k Q) Q) (ov σ [(0, .pointer (some at0)), (2, .int .i64 xt2), (8, .int .i64 xt8)]) w := by kernel_rfl
noncomputable def s0b : Code := (subC [0, 1] body).getD .skip
theorem s0_eq (at0 : Addr) (xt1 xt2 : Int) (Q : PQ) (σ : Fr) (w : World) : s0 at0 xt1 xt2 w (fun xq6 xq7 w => ∀ d : Fr, Q .ret (ov d [(6, .int .i64 xq6), (7, .int .i64 xq7)]) w) = codeW Tryz.prog hT 73 D (tab s0tb) [0, 1] s0b (gotoQ 0 (fun σ w => ∃ k, g0Tk k Q σ w) (widen s0LO Q)) (ov σ [(0, .pointer (some at0)), (1, .int .i64 xt1), (2, .int .i64 xt2)]) w := by kernel_rfl
theorem s0_snd : ∀ c, subC [1] body = some c → Snd Tryz.prog 73 c s0T := by
  refine scope_of (hT := hT) (D := D) (l := s0tb) (b := s0b) (b' := j1b) (pb := [1, 1, 1, 1, 0, 1]) (lb := 0) (Tk := g0Tk) (Tb := j1T) (lo := s0LO) (by kernel_rfl) (by
    intro x hx
    simp only [s0tb, List.mem_cons, List.not_mem_nil, or_false] at hx
    subst hx
    exact j1_snd) (by kernel_rfl) (by kernel_rfl) (by kernel_rfl) (by kernel_rfl) j1_snd ?_ ?_ ?_
  · intro Q σ w h
    unfold g0Tk at h
    obtain ⟨_, _, h⟩ := gAd_elim h
    obtain ⟨_, _, h⟩ := gInt_elim h
    obtain ⟨_, _, h⟩ := gInt_elim h
    exact h
  · intro k Q σ w h
    unfold g0Tk at h
    obtain ⟨at0, h0, h⟩ := gAd_elim h
    obtain ⟨xt2, h2, h⟩ := gInt_elim h
    obtain ⟨xt8, h8, h⟩ := gInt_elim h
    rw [g0_eq (σ := σ)] at h
    have e : (ov σ [(0, .pointer (some at0)), (2, .int .i64 xt2), (8, .int .i64 xt8)]) = σ := ov_self (by simp [h0, h2, h8])
    rw [e] at h
    exact h
  · intro Q σ w h
    unfold s0T at h
    obtain ⟨at0, h0, h⟩ := gAd_elim h
    obtain ⟨xt1, h1, h⟩ := gInt_elim h
    obtain ⟨xt2, h2, h⟩ := gInt_elim h
    rw [s0_eq (σ := σ)] at h
    have e : (ov σ [(0, .pointer (some at0)), (1, .int .i64 xt1), (2, .int .i64 xt2)]) = σ := ov_self (by simp [h0, h1, h2])
    rw [e] at h
    exact h
def tb : List (List Nat × Spec) := [([1, 1, 1, 1, 0, 1], j1T), ([1], s0T)]
variable (aa0 : Addr) (xa1 xa2 : Int) (w : World) (Q : Ending → World → Prop)
theorem wp_eq : wp aa0 xa1 xa2 w Q = codeW Tryz.prog hT 73 D (tab tb) [] body (topQ Tryz.prog hT 73 [.tmp 6, .tmp 7] Q) (argsF [.pointer (some aa0), .int .i64 xa1, .int .i64 xa2]) w := by kernel_rfl
theorem ok (h : wp aa0 xa1 xa2 w Q) : Calls Tryz.prog 90 #[.pointer (some aa0), .int .i64 xa1, .int .i64 xa2] w Q := by
  rw [wp_eq] at h
  refine calls_of_codeW (c := body) (rs := [.tmp 6, .tmp 7]) Tryz.func90 ?_ ?_ ?_ ?_ ?_ (tab_snd (by
    intro x hx
    simp only [tb, List.mem_cons, List.not_mem_nil, or_false] at hx
    rcases hx with rfl | rfl
    · exact j1_snd
    · exact s0_snd)) ?_ h <;> kernel_rfl
end f_euler_load_At
namespace f_euler_load_free
noncomputable def body : Code := (Tryz.f91.body).getD .skip
def wp (aa0 : Addr) (xa1 : Int) (w : World) (Q : Ending → World → Prop) : Prop := sel (decide (xa1 > 0)) (ldS w aa0 fun A1 n1 c1 => optB A1 fun a2 => req (decide (0 ≤ xa1 ∧ xa1 < (n1 : Int))) <| stW w ((a2.add (xa1.toNat * 11)).add 2) (.int .i64 0) fun w3 => Q (.returned (.tuple #[])) w3) (Q (.returned (.tuple #[])) w)
def D : Nat → Option DH := dtab []
def tb : List (List Nat × Spec) := []
variable (aa0 : Addr) (xa1 : Int) (w : World) (Q : Ending → World → Prop)
theorem wp_eq : wp aa0 xa1 w Q = codeW Tryz.prog hT 13 D (tab tb) [] body (topQ Tryz.prog hT 13 [] Q) (argsF [.pointer (some aa0), .int .i64 xa1]) w := by kernel_rfl
theorem ok (h : wp aa0 xa1 w Q) : Calls Tryz.prog 91 #[.pointer (some aa0), .int .i64 xa1] w Q := by
  rw [wp_eq] at h
  refine calls_of_codeW (c := body) (rs := []) Tryz.func91 ?_ ?_ ?_ ?_ ?_ (tab_snd (by
    intro x hx
    simp only [tb, List.not_mem_nil] at hx
    )) ?_ h <;> kernel_rfl
end f_euler_load_free
namespace f_euler_load_merge
noncomputable def body : Code := (Tryz.f92.body).getD .skip
def wp (aa0 : Addr) (xa1 xa2 : Int) (w : World) (Q : Ending → World → Prop) : Prop := sel (xa1 == 0) (Q (.returned (.int .i64 xa2)) w) (sel (xa2 == 0) (Q (.returned (.int .i64 xa1)) w) (drW w fun w1 => ldS w1 aa0 fun A3 n3 c3 => optB A3 fun a4 => req (decide (0 ≤ xa1 ∧ xa1 < (n3 : Int))) <| ldI w1 ((a4.add (xa1.toNat * 11)).add 3) .u64 fun x5 => ldS w1 aa0 fun A6 n6 c6 => optB A6 fun a7 => req (decide (0 ≤ xa2 ∧ xa2 < (n6 : Int))) <| ldI w1 ((a7.add (xa2.toNat * 11)).add 3) .u64 fun x8 => sel (decide (x5 ≥ x8)) (drW w1 fun w9 => ∃ S10 : World → Prop, S10 w9 ∧ (hdS S10 aa0 fun A11 n11 c11 => hdS S10 aa0 fun A12 n12 c12 => optB A12 fun a13 => req (decide (0 ≤ xa1 ∧ xa1 < (n12 : Int))) <| hdI S10 ((a13.add (xa1.toNat * 11)).add 1) .i64 fun x14 => Calls Tryz.prog 92 #[.pointer (some aa0), .int .i64 x14, .int .i64 xa2] w9 fun e15 w16 => ∃ x17, e15 = .returned (.int .i64 x17) ∧ (S10 w16 ∧ (optB A11 fun a18 => req (decide (0 ≤ xa1 ∧ xa1 < (n11 : Int))) <| stW w16 ((a18.add (xa1.toNat * 11)).add 1) (.int .i64 x17) fun w19 => Calls Tryz.prog 93 #[.pointer (some aa0), .int .i64 xa1] w19 fun e20 w21 => e20 = .returned (.tuple #[]) ∧ (Q (.returned (.int .i64 xa1)) w21))))) (drW w1 fun w22 => ∃ S23 : World → Prop, S23 w22 ∧ (hdS S23 aa0 fun A24 n24 c24 => hdS S23 aa0 fun A25 n25 c25 => optB A25 fun a26 => req (decide (0 ≤ xa2 ∧ xa2 < (n25 : Int))) <| hdI S23 (a26.add (xa2.toNat * 11)) .i64 fun x27 => Calls Tryz.prog 92 #[.pointer (some aa0), .int .i64 xa1, .int .i64 x27] w22 fun e28 w29 => ∃ x30, e28 = .returned (.int .i64 x30) ∧ (S23 w29 ∧ (optB A24 fun a31 => req (decide (0 ≤ xa2 ∧ xa2 < (n24 : Int))) <| stW w29 (a31.add (xa2.toNat * 11)) (.int .i64 x30) fun w32 => Calls Tryz.prog 93 #[.pointer (some aa0), .int .i64 xa2] w32 fun e33 w34 => e33 = .returned (.tuple #[]) ∧ (Q (.returned (.int .i64 xa2)) w34)))))))
def D : Nat → Option DH := dtab [(5, .simple [.fst 0, .fst 1, .fst 2, .fst 3, .fst 4, .fst 5, .fst 6, .fst 7, .fst 8, .fst 9, .fst 10, .fst 11, .fst 12, .fst 13, .fst 14, .fst 15] [.fst 16]), (6, .held [.fst 0, .fst 1, .fst 2, .fst 3, .fst 4, .fst 5, .fst 6, .fst 7, .fst 8, .fst 9, .fst 10, .fst 11, .fst 12, .fst 13, .fst 14, .eff 15] [.fst 16, .fst 17, .eff 18]), (9, .held [.fst 0, .fst 1, .fst 2, .fst 3, .fst 4, .fst 5, .fst 6, .fst 7, .fst 8, .fst 9, .fst 10, .fst 11, .fst 12, .fst 13, .fst 14, .eff 15] [.fst 16, .fst 17, .eff 18])]
def tb : List (List Nat × Spec) := []
variable (aa0 : Addr) (xa1 xa2 : Int) (w : World) (Q : Ending → World → Prop)
theorem wp_eq : wp aa0 xa1 xa2 w Q = codeW Tryz.prog hT 76 D (tab tb) [] body (topQ Tryz.prog hT 76 [.tmp 6] Q) (argsF [.pointer (some aa0), .int .i64 xa1, .int .i64 xa2]) w := by kernel_rfl
theorem ok (h : wp aa0 xa1 xa2 w Q) : Calls Tryz.prog 92 #[.pointer (some aa0), .int .i64 xa1, .int .i64 xa2] w Q := by
  rw [wp_eq] at h
  refine calls_of_codeW (c := body) (rs := [.tmp 6]) Tryz.func92 ?_ ?_ ?_ ?_ ?_ (tab_snd (by
    intro x hx
    simp only [tb, List.not_mem_nil] at hx
    )) ?_ h <;> kernel_rfl
end f_euler_load_merge
namespace f_euler_load_pull
noncomputable def body : Code := (Tryz.f93.body).getD .skip
def j0 (at0 : Addr) (xt1 : Int) (at4 : Addr) (w : World) (Kn : World → Prop) : Prop := ldI w (at4.add 1) .i64 fun x37 => sel (decide (x37 > 0)) (drW w fun w38 => ldI w38 (at4.add 4) .i64 fun x40 => ldS w38 at0 fun A41 n41 c41 => optB A41 fun a42 => req (decide (0 ≤ x37 ∧ x37 < (n41 : Int))) <| ldI w38 ((a42.add (x37.toNat * 11)).add 4) .i64 fun x43 => stW w38 (at4.add 4) (.int .i64 (IntKind.i64.wrap (x40 + x43))) fun w44 => drW w44 fun w45 => ∃ S46 : World → Prop, S46 w45 ∧ (hdI S46 (at4.add 8) .i64 fun x47 => hdI S46 ((at4.add 8).add 1) .i64 fun x48 => hdI S46 ((at4.add 8).add 2) .i64 fun x49 => hdS S46 at0 fun A50 n50 c50 => optB A50 fun a51 => req (decide (0 ≤ x37 ∧ x37 < (n50 : Int))) <| hdI S46 ((a51.add (x37.toNat * 11)).add 8) .i64 fun x52 => hdI S46 (((a51.add (x37.toNat * 11)).add 8).add 1) .i64 fun x53 => hdI S46 (((a51.add (x37.toNat * 11)).add 8).add 2) .i64 fun x54 => Calls Tryz.prog 164 #[.agg #[.int .i64 x47, .int .i64 x48, .int .i64 x49], .agg #[.int .i64 x52, .int .i64 x53, .int .i64 x54]] w45 fun e55 w56 => ∃ x57_0 x57_1 x57_2, e55 = .returned (.agg #[.int .i64 x57_0, .int .i64 x57_1, .int .i64 x57_2]) ∧ (S46 w56 ∧ (stW w56 (at4.add 8) (.int .i64 x57_0) fun w58 => stW w58 ((at4.add 8).add 1) (.int .i64 x57_1) fun w59 => stW w59 ((at4.add 8).add 2) (.int .i64 x57_2) fun w60 => ldS w60 at0 fun A61 n61 c61 => optB A61 fun a62 => req (decide (0 ≤ x37 ∧ x37 < (n61 : Int))) <| stW w60 ((a62.add (x37.toNat * 11)).add 2) (.int .i64 xt1) fun w63 => Kn w63)))) (Kn w)
def wp (aa0 : Addr) (xa1 : Int) (w : World) (Q : Ending → World → Prop) : Prop := ldS w aa0 fun A1 n1 c1 => optB A1 fun a2 => req (decide (0 ≤ xa1 ∧ xa1 < (n1 : Int))) <| ldI w ((a2.add (xa1.toNat * 11)).add 5) .i64 fun x3 => ldI w (((a2.add (xa1.toNat * 11)).add 5).add 1) .i64 fun x4 => ldI w (((a2.add (xa1.toNat * 11)).add 5).add 2) .i64 fun x5 => stW w ((a2.add (xa1.toNat * 11)).add 4) (.int .i64 1) fun w6 => stW w6 ((a2.add (xa1.toNat * 11)).add 8) (.int .i64 x3) fun w7 => stW w7 (((a2.add (xa1.toNat * 11)).add 8).add 1) (.int .i64 x4) fun w8 => stW w8 (((a2.add (xa1.toNat * 11)).add 8).add 2) (.int .i64 x5) fun w9 => ldI w9 (a2.add (xa1.toNat * 11)) .i64 fun x10 => sel (decide (x10 > 0)) (drW w9 fun w11 => ldI w11 ((a2.add (xa1.toNat * 11)).add 4) .i64 fun x13 => ldS w11 aa0 fun A14 n14 c14 => optB A14 fun a15 => req (decide (0 ≤ x10 ∧ x10 < (n14 : Int))) <| ldI w11 ((a15.add (x10.toNat * 11)).add 4) .i64 fun x16 => stW w11 ((a2.add (xa1.toNat * 11)).add 4) (.int .i64 (IntKind.i64.wrap (x13 + x16))) fun w17 => drW w17 fun w18 => ∃ S19 : World → Prop, S19 w18 ∧ (hdS S19 aa0 fun A20 n20 c20 => optB A20 fun a21 => req (decide (0 ≤ x10 ∧ x10 < (n20 : Int))) <| hdI S19 ((a21.add (x10.toNat * 11)).add 8) .i64 fun x22 => hdI S19 (((a21.add (x10.toNat * 11)).add 8).add 1) .i64 fun x23 => hdI S19 (((a21.add (x10.toNat * 11)).add 8).add 2) .i64 fun x24 => hdI S19 ((a2.add (xa1.toNat * 11)).add 8) .i64 fun x25 => hdI S19 (((a2.add (xa1.toNat * 11)).add 8).add 1) .i64 fun x26 => hdI S19 (((a2.add (xa1.toNat * 11)).add 8).add 2) .i64 fun x27 => Calls Tryz.prog 164 #[.agg #[.int .i64 x22, .int .i64 x23, .int .i64 x24], .agg #[.int .i64 x25, .int .i64 x26, .int .i64 x27]] w18 fun e28 w29 => ∃ x30_0 x30_1 x30_2, e28 = .returned (.agg #[.int .i64 x30_0, .int .i64 x30_1, .int .i64 x30_2]) ∧ (S19 w29 ∧ (stW w29 ((a2.add (xa1.toNat * 11)).add 8) (.int .i64 x30_0) fun w31 => stW w31 (((a2.add (xa1.toNat * 11)).add 8).add 1) (.int .i64 x30_1) fun w32 => stW w32 (((a2.add (xa1.toNat * 11)).add 8).add 2) (.int .i64 x30_2) fun w33 => ldS w33 aa0 fun A34 n34 c34 => optB A34 fun a35 => req (decide (0 ≤ x10 ∧ x10 < (n34 : Int))) <| stW w33 ((a35.add (x10.toNat * 11)).add 2) (.int .i64 xa1) fun w36 => j0 aa0 xa1 (a2.add (xa1.toNat * 11)) w36 (fun w64 => ∀ _ : Fr, Q (.returned (.tuple #[])) w64))))) (j0 aa0 xa1 (a2.add (xa1.toNat * 11)) w9 (fun w65 => ∀ _ : Fr, Q (.returned (.tuple #[])) w65))
def D : Nat → Option DH := dtab [(4, .simple [.fst 0, .fst 1, .fst 2, .fst 3, .fst 4, .fst 5, .fst 6, .fst 7, .fst 8, .fst 9, .fst 10, .fst 11] [.fst 12, .fst 13, .fst 14, .eff 15]), (5, .held [.fst 0, .fst 1, .fst 2, .fst 3, .fst 4, .fst 5, .fst 6, .fst 7, .fst 8, .fst 9, .fst 10, .fst 11, .fst 12, .fst 13, .eff 14] [.fst 15, .fst 16, .eff 17]), (9, .simple [.fst 0, .fst 1, .fst 2, .fst 3, .fst 4, .fst 5, .fst 6, .fst 7, .fst 8, .fst 9, .fst 10, .fst 11] [.fst 12, .fst 13, .fst 14, .eff 15]), (10, .held [.fst 0, .fst 1, .fst 2, .fst 3, .fst 4, .fst 5, .fst 6, .fst 7, .fst 8, .fst 9, .fst 10, .fst 11, .fst 12, .fst 13, .eff 14] [.fst 15, .fst 16, .eff 17])]
def j0LO : LO := ⟨[], [], [], []⟩
def j0T : Spec := fun Q σ w => gAd (σ 0) fun at0 => gInt .i64 (σ 1) fun xt1 => gAd (σ 4) fun at4 => j0 at0 xt1 at4 w (fun w => ∀ d : Fr, Q .normal (ov d []) w)
def j0tb : List (List Nat × Spec) := []
noncomputable def j0b : Code := (subC [1, 1, 1] body).getD .skip
theorem j0_eq (at0 : Addr) (xt1 : Int) (at4 : Addr) (Q : PQ) (σ : Fr) (w : World) : j0 at0 xt1 at4 w (fun w => ∀ d : Fr, Q .normal (ov d []) w) = codeW Tryz.prog hT 115 D (tab j0tb) [1, 1, 1] j0b (widen j0LO Q) (ov σ [(0, .pointer (some at0)), (1, .int .i64 xt1), (4, .pointer (some at4))]) w := by kernel_rfl
theorem j0_snd : ∀ c, subC [1, 1, 1] body = some c → Snd Tryz.prog 115 c j0T := by
  refine cut_of (hT := hT) (D := D) (l := j0tb) (b := j0b) (lo := j0LO) (by kernel_rfl) (by
    intro x hx
    simp only [j0tb, List.not_mem_nil] at hx
    ) (by kernel_rfl) (by kernel_rfl) ?_
  intro Q σ w h
  unfold j0T at h
  obtain ⟨at0, h0, h⟩ := gAd_elim h
  obtain ⟨xt1, h1, h⟩ := gInt_elim h
  obtain ⟨at4, h4, h⟩ := gAd_elim h
  rw [j0_eq (σ := σ)] at h
  have e : (ov σ [(0, .pointer (some at0)), (1, .int .i64 xt1), (4, .pointer (some at4))]) = σ := ov_self (by simp [h0, h1, h4])
  rw [e] at h
  exact h
def tb : List (List Nat × Spec) := [([1, 1, 1], j0T)]
variable (aa0 : Addr) (xa1 : Int) (w : World) (Q : Ending → World → Prop)
theorem wp_eq : wp aa0 xa1 w Q = codeW Tryz.prog hT 115 D (tab tb) [] body (topQ Tryz.prog hT 115 [] Q) (argsF [.pointer (some aa0), .int .i64 xa1]) w := by kernel_rfl
theorem ok (h : wp aa0 xa1 w Q) : Calls Tryz.prog 93 #[.pointer (some aa0), .int .i64 xa1] w Q := by
  rw [wp_eq] at h
  refine calls_of_codeW (c := body) (rs := []) Tryz.func93 ?_ ?_ ?_ ?_ ?_ (tab_snd (by
    intro x hx
    simp only [tb, List.mem_cons, List.not_mem_nil, or_false] at hx
    subst hx
    exact j0_snd)) ?_ h <;> kernel_rfl
end f_euler_load_pull
namespace f_euler_load_split
noncomputable def body : Code := (Tryz.f94.body).getD .skip
def j0 (at0 : Addr) (xt1 xt2 xt8 xt9 : Int) (w : World) (Kr : Int → Int → World → Prop) : Prop := sel (decide (xt2 ≤ xt9)) (Calls Tryz.prog 94 #[.pointer (some at0), .int .i64 xt8, .int .i64 xt2] w fun e7 w8 => ∃ x9_0 x9_1, e7 = .returned (.tuple #[.int .i64 x9_0, .int .i64 x9_1]) ∧ (ldS w8 at0 fun A10 n10 c10 => optB A10 fun a11 => req (decide (0 ≤ xt1 ∧ xt1 < (n10 : Int))) <| stW w8 (a11.add (xt1.toNat * 11)) (.int .i64 x9_1) fun w12 => Calls Tryz.prog 93 #[.pointer (some at0), .int .i64 xt1] w12 fun e13 w14 => e13 = .returned (.tuple #[]) ∧ (Kr x9_0 xt1 w14))) (ldS w at0 fun A15 n15 c15 => optB A15 fun a16 => req (decide (0 ≤ xt1 ∧ xt1 < (n15 : Int))) <| ldI w ((a16.add (xt1.toNat * 11)).add 1) .i64 fun x17 => Calls Tryz.prog 94 #[.pointer (some at0), .int .i64 x17, .int .i64 (IntKind.i64.wrap ((IntKind.i64.wrap (xt2 - xt9)) - 1))] w fun e18 w19 => ∃ x20_0 x20_1, e18 = .returned (.tuple #[.int .i64 x20_0, .int .i64 x20_1]) ∧ (ldS w19 at0 fun A21 n21 c21 => optB A21 fun a22 => req (decide (0 ≤ xt1 ∧ xt1 < (n21 : Int))) <| stW w19 ((a22.add (xt1.toNat * 11)).add 1) (.int .i64 x20_0) fun w23 => Calls Tryz.prog 93 #[.pointer (some at0), .int .i64 xt1] w23 fun e24 w25 => e24 = .returned (.tuple #[]) ∧ (Kr xt1 x20_1 w25)))
def wp (aa0 : Addr) (xa1 xa2 : Int) (w : World) (Q : Ending → World → Prop) : Prop := sel (xa1 == 0) (Q (.returned (.tuple #[.int .i64 0, .int .i64 0])) w) (ldS w aa0 fun A1 n1 c1 => optB A1 fun a2 => req (decide (0 ≤ xa1 ∧ xa1 < (n1 : Int))) <| ldI w (a2.add (xa1.toNat * 11)) .i64 fun x3 => sel (decide (x3 > 0)) (ldS w aa0 fun A4 n4 c4 => optB A4 fun a5 => req (decide (0 ≤ x3 ∧ x3 < (n4 : Int))) <| ldI w ((a5.add (x3.toNat * 11)).add 4) .i64 fun x6 => j0 aa0 xa1 xa2 x3 x6 w (fun x26 x27 w28 => ∀ _ : Fr, Q (.returned (.tuple #[.int .i64 x26, .int .i64 x27])) w28)) (j0 aa0 xa1 xa2 x3 0 w (fun x29 x30 w31 => ∀ _ : Fr, Q (.returned (.tuple #[.int .i64 x29, .int .i64 x30])) w31)))
def D : Nat → Option DH := dtab []
def j0LO : LO := ⟨[], [6, 7], [], []⟩
def j0T : Spec := fun Q σ w => gAd (σ 0) fun at0 => gInt .i64 (σ 1) fun xt1 => gInt .i64 (σ 2) fun xt2 => gInt .i64 (σ 8) fun xt8 => gInt .i64 (σ 9) fun xt9 => j0 at0 xt1 xt2 xt8 xt9 w (fun xq6 xq7 w => ∀ d : Fr, Q .ret (ov d [(6, .int .i64 xq6), (7, .int .i64 xq7)]) w)
def j0tb : List (List Nat × Spec) := []
noncomputable def j0b : Code := (subC [1, 1, 1, 1, 1] body).getD .skip
theorem j0_eq (at0 : Addr) (xt1 xt2 xt8 xt9 : Int) (Q : PQ) (σ : Fr) (w : World) : j0 at0 xt1 xt2 xt8 xt9 w (fun xq6 xq7 w => ∀ d : Fr, Q .ret (ov d [(6, .int .i64 xq6), (7, .int .i64 xq7)]) w) = codeW Tryz.prog hT 87 D (tab j0tb) [1, 1, 1, 1, 1] j0b (widen j0LO Q) (ov σ [(0, .pointer (some at0)), (1, .int .i64 xt1), (2, .int .i64 xt2), (8, .int .i64 xt8), (9, .int .i64 xt9)]) w := by kernel_rfl
theorem j0_snd : ∀ c, subC [1, 1, 1, 1, 1] body = some c → Snd Tryz.prog 87 c j0T := by
  refine cut_of (hT := hT) (D := D) (l := j0tb) (b := j0b) (lo := j0LO) (by kernel_rfl) (by
    intro x hx
    simp only [j0tb, List.not_mem_nil] at hx
    ) (by kernel_rfl) (by kernel_rfl) ?_
  intro Q σ w h
  unfold j0T at h
  obtain ⟨at0, h0, h⟩ := gAd_elim h
  obtain ⟨xt1, h1, h⟩ := gInt_elim h
  obtain ⟨xt2, h2, h⟩ := gInt_elim h
  obtain ⟨xt8, h8, h⟩ := gInt_elim h
  obtain ⟨xt9, h9, h⟩ := gInt_elim h
  rw [j0_eq (σ := σ)] at h
  have e : (ov σ [(0, .pointer (some at0)), (1, .int .i64 xt1), (2, .int .i64 xt2), (8, .int .i64 xt8), (9, .int .i64 xt9)]) = σ := ov_self (by simp [h0, h1, h2, h8, h9])
  rw [e] at h
  exact h
def tb : List (List Nat × Spec) := [([1, 1, 1, 1, 1], j0T)]
variable (aa0 : Addr) (xa1 xa2 : Int) (w : World) (Q : Ending → World → Prop)
theorem wp_eq : wp aa0 xa1 xa2 w Q = codeW Tryz.prog hT 87 D (tab tb) [] body (topQ Tryz.prog hT 87 [.tmp 6, .tmp 7] Q) (argsF [.pointer (some aa0), .int .i64 xa1, .int .i64 xa2]) w := by kernel_rfl
theorem ok (h : wp aa0 xa1 xa2 w Q) : Calls Tryz.prog 94 #[.pointer (some aa0), .int .i64 xa1, .int .i64 xa2] w Q := by
  rw [wp_eq] at h
  refine calls_of_codeW (c := body) (rs := [.tmp 6, .tmp 7]) Tryz.func94 ?_ ?_ ?_ ?_ ?_ (tab_snd (by
    intro x hx
    simp only [tb, List.mem_cons, List.not_mem_nil, or_false] at hx
    subst hx
    exact j0_snd)) ?_ h <;> kernel_rfl
end f_euler_load_split
namespace f_euler_load_index
noncomputable def body : Code := (Tryz.f95.body).getD .skip
def j1 (at0 : Addr) (xt1 : Int) (w : World) (Kn : Int → World → Prop) : Prop := ldS w at0 fun A23 n23 c23 => optB A23 fun a24 => req (decide (0 ≤ xt1 ∧ xt1 < (n23 : Int))) <| ldI w ((a24.add (xt1.toNat * 11)).add 2) .i64 fun x25 => Kn x25 w
def l0 : Nat → Addr → Int → Int → Int → World → (Int → World → Prop) → Prop | 0, _, _, _, _, _, _ => False | k + 1, at0, xt1, xt5, xt6, w, K0 => sel (decide (xt6 > 0)) (ldS w at0 fun A12 n12 c12 => optB A12 fun a13 => req (decide (0 ≤ xt6 ∧ xt6 < (n12 : Int))) <| ldI w ((a13.add (xt6.toNat * 11)).add 1) .i64 fun x14 => sel (x14 == xt1) (drW w fun w15 => ldS w15 at0 fun A17 n17 c17 => ldS w15 at0 fun A18 n18 c18 => optB A18 fun a19 => req (decide (0 ≤ xt6 ∧ xt6 < (n18 : Int))) <| ldI w15 (a19.add (xt6.toNat * 11)) .i64 fun x20 => optB A17 fun a21 => req (decide (0 ≤ x20 ∧ x20 < (n17 : Int))) <| ldI w15 ((a21.add (x20.toNat * 11)).add 4) .i64 fun x22 => j1 at0 xt6 w15 (fun x26 w27 => ∀ _ : Fr, l0 k at0 xt6 (IntKind.i64.wrap (xt5 + (IntKind.i64.wrap (x22 + 1)))) x26 w27 K0)) (j1 at0 xt6 w (fun x28 w29 => ∀ _ : Fr, l0 k at0 xt6 xt5 x28 w29 K0))) (K0 xt5 w)
def wp (aa0 : Addr) (xa1 : Int) (w : World) (Q : Ending → World → Prop) : Prop := drW w fun w1 => ldS w1 aa0 fun A3 n3 c3 => ldS w1 aa0 fun A4 n4 c4 => optB A4 fun a5 => req (decide (0 ≤ xa1 ∧ xa1 < (n4 : Int))) <| ldI w1 (a5.add (xa1.toNat * 11)) .i64 fun x6 => optB A3 fun a7 => req (decide (0 ≤ x6 ∧ x6 < (n3 : Int))) <| ldI w1 ((a7.add (x6.toNat * 11)).add 4) .i64 fun x8 => ldS w1 aa0 fun A9 n9 c9 => optB A9 fun a10 => req (decide (0 ≤ xa1 ∧ xa1 < (n9 : Int))) <| ldI w1 ((a10.add (xa1.toNat * 11)).add 2) .i64 fun x11 => ∃ k32, l0 k32 aa0 xa1 x8 x11 w1 (fun x30 w31 => ∀ _ : Fr, Q (.returned (.int .i64 x30)) w31)
def D : Nat → Option DH := dtab [(1, .simple [.fst 0, .fst 1, .fst 2, .fst 3, .fst 4, .fst 5, .fst 6, .fst 7, .fst 8, .fst 9, .fst 10, .fst 11, .fst 12, .fst 13, .fst 14] [.fst 15]), (6, .simple [.fst 0, .fst 1, .fst 2, .fst 3, .fst 4, .fst 5, .fst 6, .fst 7, .fst 8, .fst 9, .fst 10, .fst 11, .fst 12, .fst 13, .fst 14, .fst 15, .fst 16] [.fst 17, .fst 18])]
def j1LO : LO := ⟨[0, 1, 5, 6], [], [], []⟩
def j1T : Spec := fun Q σ w => gAd (σ 0) fun at0 => gInt .i64 (σ 1) fun xt1 => j1 at0 xt1 w (fun xq6 w => ∀ d : Fr, Q .normal (ov d [(0, .pointer (some at0)), (1, .int .i64 xt1), (5, σ 5), (6, .int .i64 xq6)]) w)
def j1tb : List (List Nat × Spec) := []
noncomputable def j1b : Code := (subC [1, 1, 0, 0, 1, 0, 1, 1] body).getD .skip
theorem j1_eq (at0 : Addr) (xt1 : Int) (Q : PQ) (σ : Fr) (w : World) : j1 at0 xt1 w (fun xq6 w => ∀ d : Fr, Q .normal (ov d [(0, .pointer (some at0)), (1, .int .i64 xt1), (5, σ 5), (6, .int .i64 xq6)]) w) = codeW Tryz.prog hT 70 D (tab j1tb) [1, 1, 0, 0, 1, 0, 1, 1] j1b (widen j1LO Q) (ov σ [(0, .pointer (some at0)), (1, .int .i64 xt1)]) w := by kernel_rfl
theorem j1_snd : ∀ c, subC [1, 1, 0, 0, 1, 0, 1, 1] body = some c → Snd Tryz.prog 70 c j1T := by
  refine cut_of (hT := hT) (D := D) (l := j1tb) (b := j1b) (lo := j1LO) (by kernel_rfl) (by
    intro x hx
    simp only [j1tb, List.not_mem_nil] at hx
    ) (by kernel_rfl) (by kernel_rfl) ?_
  intro Q σ w h
  unfold j1T at h
  obtain ⟨at0, h0, h⟩ := gAd_elim h
  obtain ⟨xt1, h1, h⟩ := gInt_elim h
  rw [j1_eq (σ := σ)] at h
  have e : (ov σ [(0, .pointer (some at0)), (1, .int .i64 xt1)]) = σ := ov_self (by simp [h0, h1])
  rw [e] at h
  exact h
def l0LO : LO := ⟨[], [], [(0, [5])], []⟩
def l0Tk (k : Nat) : Spec := fun Q σ w => gAd (σ 0) fun at0 => gInt .i64 (σ 1) fun xt1 => gInt .i64 (σ 5) fun xt5 => gInt .i64 (σ 6) fun xt6 => l0 k at0 xt1 xt5 xt6 w (fun xq5 w => ∀ d : Fr, Q (.exit 0) (ov d [(5, .int .i64 xq5)]) w)
def l0T : Spec := fun Q σ w => ∃ k, l0Tk k Q σ w
def l0tb : List (List Nat × Spec) := [([1, 1, 0, 0, 1, 0, 1, 1], j1T)]
noncomputable def l0b : Code := (subC [0, 0, 1, 0, 1, 1] body).getD .skip
theorem l0_eq (k : Nat) (at0 : Addr) (xt1 xt5 xt6 : Int) (Q : PQ) (σ : Fr) (w : World) : l0 (k + 1) at0 xt1 xt5 xt6 w (fun xq5 w => ∀ d : Fr, Q (.exit 0) (ov d [(5, .int .i64 xq5)]) w) = codeW Tryz.prog hT 70 D (tab l0tb) [0, 0, 1, 0, 1, 1] l0b (thenQ (l0Tk k Q) (widen l0LO Q)) (ov σ [(0, .pointer (some at0)), (1, .int .i64 xt1), (5, .int .i64 xt5), (6, .int .i64 xt6)]) w := by kernel_rfl
theorem l0_snd : ∀ c, subC [0, 1, 0, 1, 1] body = some c → Snd Tryz.prog 70 c l0T := by
  refine loop_of (hT := hT) (D := D) (l := l0tb) (b := l0b) (lo := l0LO) (by kernel_rfl) (by
    intro x hx
    simp only [l0tb, List.mem_cons, List.not_mem_nil, or_false] at hx
    subst hx
    exact j1_snd) (by kernel_rfl) (by kernel_rfl) ?_ ?_
  · intro Q σ w h
    unfold l0Tk at h
    obtain ⟨_, _, h⟩ := gAd_elim h
    obtain ⟨_, _, h⟩ := gInt_elim h
    obtain ⟨_, _, h⟩ := gInt_elim h
    obtain ⟨_, _, h⟩ := gInt_elim h
    exact h
  · intro k Q σ w h
    unfold l0Tk at h
    obtain ⟨at0, h0, h⟩ := gAd_elim h
    obtain ⟨xt1, h1, h⟩ := gInt_elim h
    obtain ⟨xt5, h5, h⟩ := gInt_elim h
    obtain ⟨xt6, h6, h⟩ := gInt_elim h
    rw [l0_eq (σ := σ)] at h
    have e : (ov σ [(0, .pointer (some at0)), (1, .int .i64 xt1), (5, .int .i64 xt5), (6, .int .i64 xt6)]) = σ := ov_self (by simp [h0, h1, h5, h6])
    rw [e] at h
    exact h
def tb : List (List Nat × Spec) := [([1, 1, 0, 0, 1, 0, 1, 1], j1T), ([0, 1, 0, 1, 1], l0T)]
variable (aa0 : Addr) (xa1 : Int) (w : World) (Q : Ending → World → Prop)
theorem wp_eq : wp aa0 xa1 w Q = codeW Tryz.prog hT 70 D (tab tb) [] body (topQ Tryz.prog hT 70 [.tmp 4] Q) (argsF [.pointer (some aa0), .int .i64 xa1]) w := by kernel_rfl
theorem ok (h : wp aa0 xa1 w Q) : Calls Tryz.prog 95 #[.pointer (some aa0), .int .i64 xa1] w Q := by
  rw [wp_eq] at h
  refine calls_of_codeW (c := body) (rs := [.tmp 4]) Tryz.func95 ?_ ?_ ?_ ?_ ?_ (tab_snd (by
    intro x hx
    simp only [tb, List.mem_cons, List.not_mem_nil, or_false] at hx
    rcases hx with rfl | rfl
    · exact j1_snd
    · exact l0_snd)) ?_ h <;> kernel_rfl
end f_euler_load_index
namespace f_euler_load_walk
noncomputable def body : Code := (Tryz.f104.body).getD .skip
def od3 : OD := ⟨[0, 1, 2], [4, 6, 8, 13, 15, 17, 19, 21, 22, 23], fun i => ([⟨false, [], [], fun ps vs => match ps, vs with | [.pointer (some ap0), .int _ xp1, .slice Ap2 np2 cp2], [] => .pointer (some ap0) | _, _ => undef⟩,
  ⟨false, [], [], fun ps vs => match ps, vs with | [.pointer (some ap0), .int _ xp1, .slice Ap2 np2 cp2], [] => .pointer (some ap0) | _, _ => undef⟩,
  ⟨false, [], [1], fun ps vs => match ps, vs with | [.pointer (some ap0), .int _ xp1, .slice Ap2 np2 cp2], [] => .pointer (some ap0) | _, _ => undef⟩,
  ⟨false, [], [2], fun ps vs => match ps, vs with | [.pointer (some ap0), .int _ xp1, .slice Ap2 np2 cp2], [] => .pointer (some ap0) | _, _ => undef⟩,
  ⟨true, [], [3], fun _ _ => undef⟩,
  ⟨false, [], [], fun ps vs => match ps, vs with | [.pointer (some ap0), .int _ xp1, .slice Ap2 np2 cp2], [] => .int .i64 xp1 | _, _ => undef⟩,
  ⟨true, [4], [4, 5], fun _ _ => undef⟩,
  ⟨false, [4, 6], [6], fun ps vs => match ps, vs with | [.pointer (some ap0), .int _ xp1, .slice Ap2 np2 cp2], [.slice Ae4 ne4 ce4, .pointer (some ae6)] => .pointer (some (ae6.add 1)) | _, _ => undef⟩,
  ⟨true, [4, 6], [7], fun _ _ => undef⟩,
  ⟨false, [], [], fun ps vs => match ps, vs with | [.pointer (some ap0), .int _ xp1, .slice Ap2 np2 cp2], [] => .pointer (some ap0) | _, _ => undef⟩,
  ⟨false, [], [], fun ps vs => match ps, vs with | [.pointer (some ap0), .int _ xp1, .slice Ap2 np2 cp2], [] => .pointer (some ap0) | _, _ => undef⟩,
  ⟨false, [], [10], fun ps vs => match ps, vs with | [.pointer (some ap0), .int _ xp1, .slice Ap2 np2 cp2], [] => .pointer (some ap0) | _, _ => undef⟩,
  ⟨false, [], [11], fun ps vs => match ps, vs with | [.pointer (some ap0), .int _ xp1, .slice Ap2 np2 cp2], [] => .pointer (some ap0) | _, _ => undef⟩,
  ⟨true, [], [12], fun _ _ => undef⟩,
  ⟨false, [], [], fun ps vs => match ps, vs with | [.pointer (some ap0), .int _ xp1, .slice Ap2 np2 cp2], [] => .int .i64 xp1 | _, _ => undef⟩,
  ⟨true, [13], [13, 14], fun _ _ => undef⟩,
  ⟨false, [13, 15], [15], fun ps vs => match ps, vs with | [.pointer (some ap0), .int _ xp1, .slice Ap2 np2 cp2], [.slice Ae13 ne13 ce13, .pointer (some ae15)] => .pointer (some ae15) | _, _ => undef⟩,
  ⟨true, [13, 15], [16], fun _ _ => undef⟩,
  ⟨false, [], [], fun ps vs => match ps, vs with | [.pointer (some ap0), .int _ xp1, .slice Ap2 np2 cp2], [] => .slice Ap2 np2 cp2 | _, _ => undef⟩,
  ⟨true, [13, 15, 17], [9, 17, 18], fun _ _ => undef⟩,
  ⟨false, [], [], fun ps vs => match ps, vs with | [.pointer (some ap0), .int _ xp1, .slice Ap2 np2 cp2], [] => .int .i64 xp1 | _, _ => undef⟩,
  ⟨true, [], [20], fun _ _ => undef⟩,
  ⟨true, [13, 15, 17, 19, 21], [19, 21], fun _ _ => undef⟩,
  ⟨true, [4, 6, 8, 13, 15, 17, 19, 21, 22], [0, 8, 22], fun _ _ => undef⟩,
  ⟨false, [4, 6, 8, 13, 15, 17, 19, 21, 22, 23], [23], fun ps vs => match ps, vs with | [.pointer (some ap0), .int _ xp1, .slice Ap2 np2 cp2], [.slice Ae4 ne4 ce4, .pointer (some ae6), .int _ xe8, .slice Ae13 ne13 ce13, .pointer (some ae15), .int _ xe17, .slice Ae19 ne19 ce19, .slice Ae21 ne21 ce21, .slice Ae22 ne22 ce22, .slice Ae23 ne23 ce23] => .slice Ae23 ne23 ce23 | _, _ => undef⟩] : List OI).getD i ⟨true, [], [], fun _ _ => undef⟩, fun i => ([.one (.sc .any), .one (.sc .any), .one (.sc .any), .one (.sc .any), (.one (.sc .slice)), .one (.sc .any), (.one (.sc .ad)), .one (.sc .any), (.one (.sc (.int .i64))), .one (.sc .any), .one (.sc .any), .one (.sc .any), .one (.sc .any), (.one (.sc .slice)), .one (.sc .any), (.one (.sc .ad)), .one (.sc .any), (.one (.sc (.int .i64))), .one (.sc .any), (.one (.sc .slice)), .one (.sc .any), (.one (.sc .slice)), (.one (.sc .slice)), (.one (.sc .slice)), .one (.sc .any)] : List OS).getD i (.one (.sc .any))⟩
def h3 (ap0 : Addr) (xp1 : Int) (Ap2 : Option Addr) (np2 cp2 : Nat) : Prop := (∀ (_ : Fr) (w : World), w = w ∧ (.pointer (some ap0) : Value) = (.pointer (some ap0))) ∧ (∀ (_ : Fr) (w : World), w = w ∧ (.pointer (some ap0) : Value) = (.pointer (some ap0))) ∧ (∀ (_ : Fr) (w : World), w = w ∧ (.pointer (some ap0) : Value) = (.pointer (some ap0))) ∧ (∀ (_ : Fr) (w : World), w = w ∧ (.pointer (some ap0) : Value) = (.pointer (some ap0))) ∧ (∀ (_ : Fr) (w : World), w = w ∧ (.int .i64 xp1 : Value) = (.int .i64 xp1)) ∧ (∀ (_ : Fr) (w : World), ∀ (Ae4 : Option Addr) (ne4 ce4 : Nat), ∀ (ae6 : Addr), w = w ∧ (.pointer (some (ae6.add 1)) : Value) = (.pointer (some (ae6.add 1)))) ∧ (∀ (_ : Fr) (w : World), w = w ∧ (.pointer (some ap0) : Value) = (.pointer (some ap0))) ∧ (∀ (_ : Fr) (w : World), w = w ∧ (.pointer (some ap0) : Value) = (.pointer (some ap0))) ∧ (∀ (_ : Fr) (w : World), w = w ∧ (.pointer (some ap0) : Value) = (.pointer (some ap0))) ∧ (∀ (_ : Fr) (w : World), w = w ∧ (.pointer (some ap0) : Value) = (.pointer (some ap0))) ∧ (∀ (_ : Fr) (w : World), w = w ∧ (.int .i64 xp1 : Value) = (.int .i64 xp1)) ∧ (∀ (_ : Fr) (w : World), ∀ (Ae13 : Option Addr) (ne13 ce13 : Nat), ∀ (ae15 : Addr), w = w ∧ (.pointer (some ae15) : Value) = (.pointer (some ae15))) ∧ (∀ (_ : Fr) (w : World), w = w ∧ (.slice Ap2 np2 cp2 : Value) = (.slice Ap2 np2 cp2)) ∧ (∀ (_ : Fr) (w : World), w = w ∧ (.int .i64 xp1 : Value) = (.int .i64 xp1)) ∧ (∀ (_ : Fr) (w : World), ∀ (Ae4 : Option Addr) (ne4 ce4 : Nat), ∀ (ae6 : Addr), ∀ (xe8 : Int), ∀ (Ae13 : Option Addr) (ne13 ce13 : Nat), ∀ (ae15 : Addr), ∀ (xe17 : Int), ∀ (Ae19 : Option Addr) (ne19 ce19 : Nat), ∀ (Ae21 : Option Addr) (ne21 ce21 : Nat), ∀ (Ae22 : Option Addr) (ne22 ce22 : Nat), ∀ (Ae23 : Option Addr) (ne23 ce23 : Nat), w = w ∧ (.slice Ae23 ne23 ce23 : Value) = (.slice Ae23 ne23 ce23)) ∧ True
theorem h3_ok (ap0 : Addr) (xp1 : Int) (Ap2 : Option Addr) (np2 cp2 : Nat) : h3 ap0 xp1 Ap2 np2 cp2 := ⟨fun _ w => ⟨rfl, rfl⟩, fun _ w => ⟨rfl, rfl⟩, fun _ w => ⟨rfl, rfl⟩, fun _ w => ⟨rfl, rfl⟩, fun _ w => ⟨rfl, rfl⟩, fun _ w _ _ _ _ => ⟨rfl, rfl⟩, fun _ w => ⟨rfl, rfl⟩, fun _ w => ⟨rfl, rfl⟩, fun _ w => ⟨rfl, rfl⟩, fun _ w => ⟨rfl, rfl⟩, fun _ w => ⟨rfl, rfl⟩, fun _ w _ _ _ _ => ⟨rfl, rfl⟩, fun _ w => ⟨rfl, rfl⟩, fun _ w => ⟨rfl, rfl⟩, fun _ w _ _ _ _ _ _ _ _ _ _ _ _ _ _ _ _ _ _ _ _ _ _ => ⟨rfl, rfl⟩, trivial⟩
def wp (aa0 : Addr) (xa1 : Int) (Aa2 : Option Addr) (na2 ca2 : Nat) (w : World) (Q : Ending → World → Prop) : Prop := sel (xa1 == 0) (Q (.returned (.slice Aa2 na2 ca2)) w) (drW w fun w1 => h3 aa0 xa1 Aa2 na2 ca2 ∧ ∃ (G2 : World → World → Prop) (Φ3 : Nat → Value → World → Prop), (∀ w, G2 w w) ∧ (∀ a b c, G2 a b → G2 b c → G2 a c) ∧ (∀ i v a b, G2 w1 a → G2 a b → Φ3 i v a → Φ3 i v b) ∧ ((∀ (_ : Fr) (w4 : World), G2 w1 w4 → (ldS w4 aa0 fun A5 n5 c5 => G2 w4 w4 ∧ Φ3 4 (.slice A5 n5 c5) w4)) ∧ (∀ (_ : Fr) (w6 : World), G2 w1 w6 → ∀ (Ae4 : Option Addr) (ne4 ce4 : Nat), Φ3 4 (.slice Ae4 ne4 ce4) w6 → (optB Ae4 fun a7 => req (decide (0 ≤ xa1 ∧ xa1 < (ne4 : Int))) <| G2 w6 w6 ∧ Φ3 6 (.pointer (some (a7.add (xa1.toNat * 11)))) w6)) ∧ (∀ (_ : Fr) (w8 : World), G2 w1 w8 → ∀ (Ae4 : Option Addr) (ne4 ce4 : Nat), Φ3 4 (.slice Ae4 ne4 ce4) w8 → ∀ (ae6 : Addr), Φ3 6 (.pointer (some ae6)) w8 → (ldI w8 (ae6.add 1) .i64 fun x9 => G2 w8 w8 ∧ Φ3 8 (.int .i64 x9) w8)) ∧ (∀ (_ : Fr) (w10 : World), G2 w1 w10 → (ldS w10 aa0 fun A11 n11 c11 => G2 w10 w10 ∧ Φ3 13 (.slice A11 n11 c11) w10)) ∧ (∀ (_ : Fr) (w12 : World), G2 w1 w12 → ∀ (Ae13 : Option Addr) (ne13 ce13 : Nat), Φ3 13 (.slice Ae13 ne13 ce13) w12 → (optB Ae13 fun a13 => req (decide (0 ≤ xa1 ∧ xa1 < (ne13 : Int))) <| G2 w12 w12 ∧ Φ3 15 (.pointer (some (a13.add (xa1.toNat * 11)))) w12)) ∧ (∀ (_ : Fr) (w14 : World), G2 w1 w14 → ∀ (Ae13 : Option Addr) (ne13 ce13 : Nat), Φ3 13 (.slice Ae13 ne13 ce13) w14 → ∀ (ae15 : Addr), Φ3 15 (.pointer (some ae15)) w14 → (ldI w14 ae15 .i64 fun x15 => G2 w14 w14 ∧ Φ3 17 (.int .i64 x15) w14)) ∧ (∀ (_ : Fr) (w16 : World), G2 w1 w16 → ∀ (Ae13 : Option Addr) (ne13 ce13 : Nat), Φ3 13 (.slice Ae13 ne13 ce13) w16 → ∀ (ae15 : Addr), Φ3 15 (.pointer (some ae15)) w16 → ∀ (xe17 : Int), Φ3 17 (.int .i64 xe17) w16 → (Calls Tryz.prog 104 #[.pointer (some aa0), .int .i64 xe17, .slice Aa2 na2 ca2] w16 fun e17 w18 => ∃ A19 n19 c19, e17 = .returned (.slice A19 n19 c19) ∧ (G2 w16 w18 ∧ Φ3 19 (.slice A19 n19 c19) w18))) ∧ (∀ (_ : Fr) (w20 : World), G2 w1 w20 → (alW w20 (.cells #[.int .i64 xa1] 3) fun B21 w22 => G2 w20 w22 ∧ Φ3 21 (.slice (some ⟨B21, 0, none⟩) 1 1) w22)) ∧ (∀ (_ : Fr) (w23 : World), G2 w1 w23 → ∀ (Ae13 : Option Addr) (ne13 ce13 : Nat), Φ3 13 (.slice Ae13 ne13 ce13) w23 → ∀ (ae15 : Addr), Φ3 15 (.pointer (some ae15)) w23 → ∀ (xe17 : Int), Φ3 17 (.int .i64 xe17) w23 → ∀ (Ae19 : Option Addr) (ne19 ce19 : Nat), Φ3 19 (.slice Ae19 ne19 ce19) w23 → ∀ (Ae21 : Option Addr) (ne21 ce21 : Nat), Φ3 21 (.slice Ae21 ne21 ce21) w23 → (Runs Tryz.prog (Builtin.append_ #[22, 22] 22 #[.slice Ae19 ne19 ce19, .slice Ae21 ne21 ce21]) w23 fun v25 w24 => ∃ A26 n26 c26, v25 = (.slice A26 n26 c26) ∧ (G2 w23 w24 ∧ Φ3 22 (.slice A26 n26 c26) w24))) ∧ (∀ (_ : Fr) (w27 : World), G2 w1 w27 → ∀ (Ae4 : Option Addr) (ne4 ce4 : Nat), Φ3 4 (.slice Ae4 ne4 ce4) w27 → ∀ (ae6 : Addr), Φ3 6 (.pointer (some ae6)) w27 → ∀ (xe8 : Int), Φ3 8 (.int .i64 xe8) w27 → ∀ (Ae13 : Option Addr) (ne13 ce13 : Nat), Φ3 13 (.slice Ae13 ne13 ce13) w27 → ∀ (ae15 : Addr), Φ3 15 (.pointer (some ae15)) w27 → ∀ (xe17 : Int), Φ3 17 (.int .i64 xe17) w27 → ∀ (Ae19 : Option Addr) (ne19 ce19 : Nat), Φ3 19 (.slice Ae19 ne19 ce19) w27 → ∀ (Ae21 : Option Addr) (ne21 ce21 : Nat), Φ3 21 (.slice Ae21 ne21 ce21) w27 → ∀ (Ae22 : Option Addr) (ne22 ce22 : Nat), Φ3 22 (.slice Ae22 ne22 ce22) w27 → (Calls Tryz.prog 104 #[.pointer (some aa0), .int .i64 xe8, .slice Ae22 ne22 ce22] w27 fun e28 w29 => ∃ A30 n30 c30, e28 = .returned (.slice A30 n30 c30) ∧ (G2 w27 w29 ∧ Φ3 23 (.slice A30 n30 c30) w29))) ∧ True) ∧ ∀ w31, G2 w1 w31 → ∀ (Ae4 : Option Addr) (ne4 ce4 : Nat), Φ3 4 (.slice Ae4 ne4 ce4) w31 → ∀ (ae6 : Addr), Φ3 6 (.pointer (some ae6)) w31 → ∀ (xe8 : Int), Φ3 8 (.int .i64 xe8) w31 → ∀ (Ae13 : Option Addr) (ne13 ce13 : Nat), Φ3 13 (.slice Ae13 ne13 ce13) w31 → ∀ (ae15 : Addr), Φ3 15 (.pointer (some ae15)) w31 → ∀ (xe17 : Int), Φ3 17 (.int .i64 xe17) w31 → ∀ (Ae19 : Option Addr) (ne19 ce19 : Nat), Φ3 19 (.slice Ae19 ne19 ce19) w31 → ∀ (Ae21 : Option Addr) (ne21 ce21 : Nat), Φ3 21 (.slice Ae21 ne21 ce21) w31 → ∀ (Ae22 : Option Addr) (ne22 ce22 : Nat), Φ3 22 (.slice Ae22 ne22 ce22) w31 → ∀ (Ae23 : Option Addr) (ne23 ce23 : Nat), Φ3 23 (.slice Ae23 ne23 ce23) w31 → (Q (.returned (.slice Ae23 ne23 ce23)) w31))
def D : Nat → Option DH := dtab [(3, .opn od3)]
def tb : List (List Nat × Spec) := []
variable (aa0 : Addr) (xa1 : Int) (Aa2 : Option Addr) (na2 ca2 : Nat) (w : World) (Q : Ending → World → Prop)
theorem wp_eq : wp aa0 xa1 Aa2 na2 ca2 w Q = codeW Tryz.prog hT 34 D (tab tb) [] body (topQ Tryz.prog hT 34 [.tmp 6] Q) (argsF [.pointer (some aa0), .int .i64 xa1, .slice Aa2 na2 ca2]) w := by kernel_rfl
theorem ok (h : wp aa0 xa1 Aa2 na2 ca2 w Q) : Calls Tryz.prog 104 #[.pointer (some aa0), .int .i64 xa1, .slice Aa2 na2 ca2] w Q := by
  rw [wp_eq] at h
  refine calls_of_codeW (c := body) (rs := [.tmp 6]) Tryz.func104 ?_ ?_ ?_ ?_ ?_ (tab_snd (by
    intro x hx
    simp only [tb, List.not_mem_nil] at hx
    )) ?_ h <;> kernel_rfl
end f_euler_load_walk
namespace f_euler_load_chance
noncomputable def body : Code := (Tryz.f107.body).getD .skip
def j0 (at0 : Addr) (xt3 : Int) (w : World) (Kr : Int → World → Prop) : Prop := ldI w (at0.add 2) .u64 fun x8 => stW w (at0.add 2) (.int .u64 (IntKind.u64.wrap ((bxor .u64 x8 (IntKind.u64.wrap xt3)) * 15074714826142052245))) fun w9 => drW w9 fun w10 => ldI w10 (at0.add 2) .u64 fun x12 => ldI w10 (at0.add 2) .u64 fun x13 => stW w10 (at0.add 2) (.int .u64 (bxor .u64 x12 (x13.fdiv (2 ^ 29)))) fun w14 => ldI w14 (at0.add 2) .u64 fun x15 => Kr x15 w14
def wp (aa0 : Addr) (w : World) (Q : Ending → World → Prop) : Prop := ldS w (aa0.add 1) fun A1 n1 c1 => sel (decide ((n1 : Int) > 0)) (drW w fun w2 => ldS w2 (aa0.add 1) fun A4 n4 c4 => ldS w2 aa0 fun A5 n5 c5 => req (!decide ((n1 : Int) = 0)) <| optB A4 fun a6 => req (decide (0 ≤ ((IntKind.i64.wrap ((n5 : Int) - 1)).tmod (n1 : Int)) ∧ ((IntKind.i64.wrap ((n5 : Int) - 1)).tmod (n1 : Int)) < (n4 : Int))) <| ldI w2 (a6.add (((IntKind.i64.wrap ((n5 : Int) - 1)).tmod (n1 : Int)).toNat * 1)) .i64 fun x7 => j0 aa0 x7 w2 (fun x16 w17 => ∀ _ : Fr, Q (.returned (.int .u64 x16)) w17)) (j0 aa0 0 w (fun x18 w19 => ∀ _ : Fr, Q (.returned (.int .u64 x18)) w19))
def D : Nat → Option DH := dtab [(4, .simple [.fst 0, .fst 1, .fst 2, .fst 3, .fst 4, .fst 5, .fst 6, .fst 7, .fst 8, .fst 9, .fst 10, .fst 11, .fst 12, .fst 13] [.fst 14]), (6, .simple [.fst 0, .fst 1, .fst 2, .fst 3, .fst 4, .fst 5, .fst 6, .fst 7, .fst 8] [.fst 9, .fst 10, .fst 11, .eff 12])]
def j0LO : LO := ⟨[], [2], [], []⟩
def j0T : Spec := fun Q σ w => gAd (σ 0) fun at0 => gInt .i64 (σ 3) fun xt3 => j0 at0 xt3 w (fun xq2 w => ∀ d : Fr, Q .ret (ov d [(2, .int .u64 xq2)]) w)
def j0tb : List (List Nat × Spec) := []
noncomputable def j0b : Code := (subC [1, 1, 1] body).getD .skip
theorem j0_eq (at0 : Addr) (xt3 : Int) (Q : PQ) (σ : Fr) (w : World) : j0 at0 xt3 w (fun xq2 w => ∀ d : Fr, Q .ret (ov d [(2, .int .u64 xq2)]) w) = codeW Tryz.prog hT 53 D (tab j0tb) [1, 1, 1] j0b (widen j0LO Q) (ov σ [(0, .pointer (some at0)), (3, .int .i64 xt3)]) w := by kernel_rfl
theorem j0_snd : ∀ c, subC [1, 1, 1] body = some c → Snd Tryz.prog 53 c j0T := by
  refine cut_of (hT := hT) (D := D) (l := j0tb) (b := j0b) (lo := j0LO) (by kernel_rfl) (by
    intro x hx
    simp only [j0tb, List.not_mem_nil] at hx
    ) (by kernel_rfl) (by kernel_rfl) ?_
  intro Q σ w h
  unfold j0T at h
  obtain ⟨at0, h0, h⟩ := gAd_elim h
  obtain ⟨xt3, h3, h⟩ := gInt_elim h
  rw [j0_eq (σ := σ)] at h
  have e : (ov σ [(0, .pointer (some at0)), (3, .int .i64 xt3)]) = σ := ov_self (by simp [h0, h3])
  rw [e] at h
  exact h
def tb : List (List Nat × Spec) := [([1, 1, 1], j0T)]
variable (aa0 : Addr) (w : World) (Q : Ending → World → Prop)
theorem wp_eq : wp aa0 w Q = codeW Tryz.prog hT 53 D (tab tb) [] body (topQ Tryz.prog hT 53 [.tmp 2] Q) (argsF [.pointer (some aa0)]) w := by kernel_rfl
theorem ok (h : wp aa0 w Q) : Calls Tryz.prog 107 #[.pointer (some aa0)] w Q := by
  rw [wp_eq] at h
  refine calls_of_codeW (c := body) (rs := [.tmp 2]) Tryz.func107 ?_ ?_ ?_ ?_ ?_ (tab_snd (by
    intro x hx
    simp only [tb, List.mem_cons, List.not_mem_nil, or_false] at hx
    subst hx
    exact j0_snd)) ?_ h <;> kernel_rfl
end f_euler_load_chance
namespace f_euler_load_Seek_E
noncomputable def body : Code := (Tryz.f108.body).getD .skip
def l0 : Nat → Addr → Int → World → (Int → Int → World → Prop) → Prop | 0, _, _, _, _ => False | k + 1, at0, xt8, w, Kr => ldS w at0 fun A17 n17 c17 => optB A17 fun a18 => req (decide (0 ≤ xt8 ∧ xt8 < (n17 : Int))) <| ldI w (a18.add (xt8.toNat * 11)) .i64 fun x19 => ldI w ((a18.add (xt8.toNat * 11)).add 1) .i64 fun x20 => ldI w ((a18.add (xt8.toNat * 11)).add 2) .i64 fun x21 => ldI w ((a18.add (xt8.toNat * 11)).add 3) .u64 fun x22 => ldI w ((a18.add (xt8.toNat * 11)).add 4) .i64 fun x23 => ldI w ((a18.add (xt8.toNat * 11)).add 5) .i64 fun x24 => ldI w ((a18.add (xt8.toNat * 11)).add 6) .i64 fun x25 => ldI w ((a18.add (xt8.toNat * 11)).add 7) .i64 fun x26 => ldI w ((a18.add (xt8.toNat * 11)).add 8) .i64 fun x27 => ldI w ((a18.add (xt8.toNat * 11)).add 9) .i64 fun x28 => ldI w ((a18.add (xt8.toNat * 11)).add 10) .i64 fun x29 => alW w (.cells #[.int .i64 0, .int .i64 0, .int .i64 0, .int .u64 0, .int .i64 0, .int .i64 0, .int .i64 0, .int .i64 0, .int .i64 0, .int .i64 0, .int .i64 0] 143) fun B30 w31 => stW w31 ⟨B30, 0, none⟩ (.int .i64 x19) fun w32 => stW w32 (.add ⟨B30, 0, none⟩ 1) (.int .i64 x20) fun w33 => stW w33 (.add ⟨B30, 0, none⟩ 2) (.int .i64 x21) fun w34 => stW w34 (.add ⟨B30, 0, none⟩ 3) (.int .u64 x22) fun w35 => stW w35 (.add ⟨B30, 0, none⟩ 4) (.int .i64 x23) fun w36 => stW w36 (.add ⟨B30, 0, none⟩ 5) (.int .i64 x24) fun w37 => stW w37 (.add ⟨B30, 0, none⟩ 6) (.int .i64 x25) fun w38 => stW w38 (.add ⟨B30, 0, none⟩ 7) (.int .i64 x26) fun w39 => stW w39 (.add ⟨B30, 0, none⟩ 8) (.int .i64 x27) fun w40 => stW w40 (.add ⟨B30, 0, none⟩ 9) (.int .i64 x28) fun w41 => stW w41 (.add ⟨B30, 0, none⟩ 10) (.int .i64 x29) fun w42 => drW w42 fun w43 => ldI w43 ⟨B30, 0, none⟩ .i64 fun x45 => sel (decide (x45 > 0)) (ldS w43 at0 fun A46 n46 c46 => ldI w43 ⟨B30, 0, none⟩ .i64 fun x47 => optB A46 fun a48 => req (decide (0 ≤ x47 ∧ x47 < (n46 : Int))) <| ldI w43 ((a48.add (x47.toNat * 11)).add 8) .i64 fun x49 => ldI w43 (((a48.add (x47.toNat * 11)).add 8).add 1) .i64 fun x50 => ldI w43 (((a48.add (x47.toNat * 11)).add 8).add 2) .i64 fun x51 => Calls Tryz.prog 97 #[.agg #[.int .i64 x49, .int .i64 x50, .int .i64 x51]] w43 fun e52 w53 => ∃ b54, e52 = .returned (.bool b54) ∧ (sel b54 (ldI w53 ⟨B30, 0, none⟩ .i64 fun x55 => l0 k at0 x55 w53 Kr) (ldI w53 (.add ⟨B30, 0, none⟩ 5) .i64 fun x56 => ldI w53 (((⟨B30, 0, none⟩ : Addr).add 5).add 1) .i64 fun x57 => ldI w53 (((⟨B30, 0, none⟩ : Addr).add 5).add 2) .i64 fun x58 => Calls Tryz.prog 97 #[.agg #[.int .i64 x56, .int .i64 x57, .int .i64 x58]] w53 fun e59 w60 => ∃ b61, e59 = .returned (.bool b61) ∧ (sel b61 (Kr xt8 0 w60) (ldI w60 (.add ⟨B30, 0, none⟩ 1) .i64 fun x62 => sel (x62 == 0) (Kr xt8 0 w60) (ldI w60 (.add ⟨B30, 0, none⟩ 1) .i64 fun x63 => l0 k at0 x63 w60 Kr)))))) (ldI w43 (.add ⟨B30, 0, none⟩ 5) .i64 fun x64 => ldI w43 (((⟨B30, 0, none⟩ : Addr).add 5).add 1) .i64 fun x65 => ldI w43 (((⟨B30, 0, none⟩ : Addr).add 5).add 2) .i64 fun x66 => Calls Tryz.prog 97 #[.agg #[.int .i64 x64, .int .i64 x65, .int .i64 x66]] w43 fun e67 w68 => ∃ b69, e67 = .returned (.bool b69) ∧ (sel b69 (Kr xt8 0 w68) (ldI w68 (.add ⟨B30, 0, none⟩ 1) .i64 fun x70 => sel (x70 == 0) (Kr xt8 0 w68) (ldI w68 (.add ⟨B30, 0, none⟩ 1) .i64 fun x71 => l0 k at0 x71 w68 Kr))))
def wp (aa0 : Addr) (xa1 : Int) (w : World) (Q : Ending → World → Prop) : Prop := alW w (.cells #[.int .i64 xa1] 3) fun B1 w2 => Calls Tryz.prog 82 #[.pointer (some aa0), .slice (some ⟨B1, 0, none⟩) 1 1] w2 fun e3 w4 => ∃ b5, e3 = .returned (.bool b5) ∧ (sel b5 (Q (.returned (.tuple #[.int .i64 0, .int .i64 150])) w4) (Calls Tryz.prog 83 #[.pointer (some aa0), .int .i64 xa1] w4 fun e6 w7 => ∃ x8, e6 = .returned (.int .i64 x8) ∧ (ldS w7 aa0 fun A9 n9 c9 => optB A9 fun a10 => req (decide (0 ≤ x8 ∧ x8 < (n9 : Int))) <| ldI w7 ((a10.add (x8.toNat * 11)).add 8) .i64 fun x11 => ldI w7 (((a10.add (x8.toNat * 11)).add 8).add 1) .i64 fun x12 => ldI w7 (((a10.add (x8.toNat * 11)).add 8).add 2) .i64 fun x13 => Calls Tryz.prog 97 #[.agg #[.int .i64 x11, .int .i64 x12, .int .i64 x13]] w7 fun e14 w15 => ∃ b16, e14 = .returned (.bool b16) ∧ (sel (!b16) (Q (.returned (.tuple #[.int .i64 0, .int .i64 0])) w15) (∃ k75, l0 k75 aa0 x8 w15 (fun x72 x73 w74 => ∀ _ : Fr, Q (.returned (.tuple #[.int .i64 x72, .int .i64 x73])) w74))))))
def D : Nat → Option DH := dtab [(8, .simple [.fst 0, .fst 1, .fst 2, .fst 3, .fst 4, .fst 5, .fst 6, .fst 7, .fst 8, .fst 9, .fst 10, .fst 11, .fst 12, .fst 13] [.eff 14, .fst 15, .fst 16])]
def l0LO : LO := ⟨[], [6, 7], [], []⟩
def l0Tk (k : Nat) : Spec := fun Q σ w => gAd (σ 0) fun at0 => gFn (σ 2) 97 <| gInt .i64 (σ 8) fun xt8 => l0 k at0 xt8 w (fun xq6 xq7 w => ∀ d : Fr, Q .ret (ov d [(6, .int .i64 xq6), (7, .int .i64 xq7)]) w)
def l0T : Spec := fun Q σ w => ∃ k, l0Tk k Q σ w
def l0tb : List (List Nat × Spec) := []
noncomputable def l0b : Code := (subC [0, 0, 1, 1, 1, 1] body).getD .skip
theorem l0_eq (k : Nat) (at0 : Addr) (xt8 : Int) (Q : PQ) (σ : Fr) (w : World) : l0 (k + 1) at0 xt8 w (fun xq6 xq7 w => ∀ d : Fr, Q .ret (ov d [(6, .int .i64 xq6), (7, .int .i64 xq7)]) w) = codeW Tryz.prog hT 67 D (tab l0tb) [0, 0, 1, 1, 1, 1] l0b (thenQ (l0Tk k Q) (widen l0LO Q)) (ov σ [(0, .pointer (some at0)), (2, .func (.func 97) #[] #[]), (8, .int .i64 xt8)]) w := by kernel_rfl
theorem l0_snd : ∀ c, subC [0, 1, 1, 1, 1] body = some c → Snd Tryz.prog 67 c l0T := by
  refine loop_of (hT := hT) (D := D) (l := l0tb) (b := l0b) (lo := l0LO) (by kernel_rfl) (by
    intro x hx
    simp only [l0tb, List.not_mem_nil] at hx
    ) (by kernel_rfl) (by kernel_rfl) ?_ ?_
  · intro Q σ w h
    unfold l0Tk at h
    obtain ⟨_, _, h⟩ := gAd_elim h
    obtain ⟨_, h⟩ := gFn_elim h
    obtain ⟨_, _, h⟩ := gInt_elim h
    exact h
  · intro k Q σ w h
    unfold l0Tk at h
    obtain ⟨at0, h0, h⟩ := gAd_elim h
    obtain ⟨h2, h⟩ := gFn_elim h
    obtain ⟨xt8, h8, h⟩ := gInt_elim h
    rw [l0_eq (σ := σ)] at h
    have e : (ov σ [(0, .pointer (some at0)), (2, .func (.func 97) #[] #[]), (8, .int .i64 xt8)]) = σ := ov_self (by simp [h0, h2, h8])
    rw [e] at h
    exact h
def tb : List (List Nat × Spec) := [([0, 1, 1, 1, 1], l0T)]
variable (aa0 : Addr) (xa1 : Int) (w : World) (Q : Ending → World → Prop)
theorem wp_eq : wp aa0 xa1 w Q = codeW Tryz.prog hT 67 D (tab tb) [] body (topQ Tryz.prog hT 67 [.tmp 6, .tmp 7] Q) (argsF [.pointer (some aa0), .int .i64 xa1, .func (.func 97) #[] #[]]) w := by kernel_rfl
theorem ok (h : wp aa0 xa1 w Q) : Calls Tryz.prog 108 #[.pointer (some aa0), .int .i64 xa1, .func (.func 97) #[] #[]] w Q := by
  rw [wp_eq] at h
  refine calls_of_codeW (c := body) (rs := [.tmp 6, .tmp 7]) Tryz.func108 ?_ ?_ ?_ ?_ ?_ (tab_snd (by
    intro x hx
    simp only [tb, List.mem_cons, List.not_mem_nil, or_false] at hx
    subst hx
    exact l0_snd)) ?_ h <;> kernel_rfl
end f_euler_load_Seek_E
namespace f_euler_load_Seek_V
noncomputable def body : Code := (Tryz.f108.body).getD .skip
def l0 : Nat → Addr → Int → World → (Int → Int → World → Prop) → Prop | 0, _, _, _, _ => False | k + 1, at0, xt8, w, Kr => ldS w at0 fun A17 n17 c17 => optB A17 fun a18 => req (decide (0 ≤ xt8 ∧ xt8 < (n17 : Int))) <| ldI w (a18.add (xt8.toNat * 11)) .i64 fun x19 => ldI w ((a18.add (xt8.toNat * 11)).add 1) .i64 fun x20 => ldI w ((a18.add (xt8.toNat * 11)).add 2) .i64 fun x21 => ldI w ((a18.add (xt8.toNat * 11)).add 3) .u64 fun x22 => ldI w ((a18.add (xt8.toNat * 11)).add 4) .i64 fun x23 => ldI w ((a18.add (xt8.toNat * 11)).add 5) .i64 fun x24 => ldI w ((a18.add (xt8.toNat * 11)).add 6) .i64 fun x25 => ldI w ((a18.add (xt8.toNat * 11)).add 7) .i64 fun x26 => ldI w ((a18.add (xt8.toNat * 11)).add 8) .i64 fun x27 => ldI w ((a18.add (xt8.toNat * 11)).add 9) .i64 fun x28 => ldI w ((a18.add (xt8.toNat * 11)).add 10) .i64 fun x29 => alW w (.cells #[.int .i64 0, .int .i64 0, .int .i64 0, .int .u64 0, .int .i64 0, .int .i64 0, .int .i64 0, .int .i64 0, .int .i64 0, .int .i64 0, .int .i64 0] 143) fun B30 w31 => stW w31 ⟨B30, 0, none⟩ (.int .i64 x19) fun w32 => stW w32 (.add ⟨B30, 0, none⟩ 1) (.int .i64 x20) fun w33 => stW w33 (.add ⟨B30, 0, none⟩ 2) (.int .i64 x21) fun w34 => stW w34 (.add ⟨B30, 0, none⟩ 3) (.int .u64 x22) fun w35 => stW w35 (.add ⟨B30, 0, none⟩ 4) (.int .i64 x23) fun w36 => stW w36 (.add ⟨B30, 0, none⟩ 5) (.int .i64 x24) fun w37 => stW w37 (.add ⟨B30, 0, none⟩ 6) (.int .i64 x25) fun w38 => stW w38 (.add ⟨B30, 0, none⟩ 7) (.int .i64 x26) fun w39 => stW w39 (.add ⟨B30, 0, none⟩ 8) (.int .i64 x27) fun w40 => stW w40 (.add ⟨B30, 0, none⟩ 9) (.int .i64 x28) fun w41 => stW w41 (.add ⟨B30, 0, none⟩ 10) (.int .i64 x29) fun w42 => drW w42 fun w43 => ldI w43 ⟨B30, 0, none⟩ .i64 fun x45 => sel (decide (x45 > 0)) (ldS w43 at0 fun A46 n46 c46 => ldI w43 ⟨B30, 0, none⟩ .i64 fun x47 => optB A46 fun a48 => req (decide (0 ≤ x47 ∧ x47 < (n46 : Int))) <| ldI w43 ((a48.add (x47.toNat * 11)).add 8) .i64 fun x49 => ldI w43 (((a48.add (x47.toNat * 11)).add 8).add 1) .i64 fun x50 => ldI w43 (((a48.add (x47.toNat * 11)).add 8).add 2) .i64 fun x51 => Calls Tryz.prog 98 #[.agg #[.int .i64 x49, .int .i64 x50, .int .i64 x51]] w43 fun e52 w53 => ∃ b54, e52 = .returned (.bool b54) ∧ (sel b54 (ldI w53 ⟨B30, 0, none⟩ .i64 fun x55 => l0 k at0 x55 w53 Kr) (ldI w53 (.add ⟨B30, 0, none⟩ 5) .i64 fun x56 => ldI w53 (((⟨B30, 0, none⟩ : Addr).add 5).add 1) .i64 fun x57 => ldI w53 (((⟨B30, 0, none⟩ : Addr).add 5).add 2) .i64 fun x58 => Calls Tryz.prog 98 #[.agg #[.int .i64 x56, .int .i64 x57, .int .i64 x58]] w53 fun e59 w60 => ∃ b61, e59 = .returned (.bool b61) ∧ (sel b61 (Kr xt8 0 w60) (ldI w60 (.add ⟨B30, 0, none⟩ 1) .i64 fun x62 => sel (x62 == 0) (Kr xt8 0 w60) (ldI w60 (.add ⟨B30, 0, none⟩ 1) .i64 fun x63 => l0 k at0 x63 w60 Kr)))))) (ldI w43 (.add ⟨B30, 0, none⟩ 5) .i64 fun x64 => ldI w43 (((⟨B30, 0, none⟩ : Addr).add 5).add 1) .i64 fun x65 => ldI w43 (((⟨B30, 0, none⟩ : Addr).add 5).add 2) .i64 fun x66 => Calls Tryz.prog 98 #[.agg #[.int .i64 x64, .int .i64 x65, .int .i64 x66]] w43 fun e67 w68 => ∃ b69, e67 = .returned (.bool b69) ∧ (sel b69 (Kr xt8 0 w68) (ldI w68 (.add ⟨B30, 0, none⟩ 1) .i64 fun x70 => sel (x70 == 0) (Kr xt8 0 w68) (ldI w68 (.add ⟨B30, 0, none⟩ 1) .i64 fun x71 => l0 k at0 x71 w68 Kr))))
def wp (aa0 : Addr) (xa1 : Int) (w : World) (Q : Ending → World → Prop) : Prop := alW w (.cells #[.int .i64 xa1] 3) fun B1 w2 => Calls Tryz.prog 82 #[.pointer (some aa0), .slice (some ⟨B1, 0, none⟩) 1 1] w2 fun e3 w4 => ∃ b5, e3 = .returned (.bool b5) ∧ (sel b5 (Q (.returned (.tuple #[.int .i64 0, .int .i64 150])) w4) (Calls Tryz.prog 83 #[.pointer (some aa0), .int .i64 xa1] w4 fun e6 w7 => ∃ x8, e6 = .returned (.int .i64 x8) ∧ (ldS w7 aa0 fun A9 n9 c9 => optB A9 fun a10 => req (decide (0 ≤ x8 ∧ x8 < (n9 : Int))) <| ldI w7 ((a10.add (x8.toNat * 11)).add 8) .i64 fun x11 => ldI w7 (((a10.add (x8.toNat * 11)).add 8).add 1) .i64 fun x12 => ldI w7 (((a10.add (x8.toNat * 11)).add 8).add 2) .i64 fun x13 => Calls Tryz.prog 98 #[.agg #[.int .i64 x11, .int .i64 x12, .int .i64 x13]] w7 fun e14 w15 => ∃ b16, e14 = .returned (.bool b16) ∧ (sel (!b16) (Q (.returned (.tuple #[.int .i64 0, .int .i64 0])) w15) (∃ k75, l0 k75 aa0 x8 w15 (fun x72 x73 w74 => ∀ _ : Fr, Q (.returned (.tuple #[.int .i64 x72, .int .i64 x73])) w74))))))
def D : Nat → Option DH := dtab [(8, .simple [.fst 0, .fst 1, .fst 2, .fst 3, .fst 4, .fst 5, .fst 6, .fst 7, .fst 8, .fst 9, .fst 10, .fst 11, .fst 12, .fst 13] [.eff 14, .fst 15, .fst 16])]
def l0LO : LO := ⟨[], [6, 7], [], []⟩
def l0Tk (k : Nat) : Spec := fun Q σ w => gAd (σ 0) fun at0 => gFn (σ 2) 98 <| gInt .i64 (σ 8) fun xt8 => l0 k at0 xt8 w (fun xq6 xq7 w => ∀ d : Fr, Q .ret (ov d [(6, .int .i64 xq6), (7, .int .i64 xq7)]) w)
def l0T : Spec := fun Q σ w => ∃ k, l0Tk k Q σ w
def l0tb : List (List Nat × Spec) := []
noncomputable def l0b : Code := (subC [0, 0, 1, 1, 1, 1] body).getD .skip
theorem l0_eq (k : Nat) (at0 : Addr) (xt8 : Int) (Q : PQ) (σ : Fr) (w : World) : l0 (k + 1) at0 xt8 w (fun xq6 xq7 w => ∀ d : Fr, Q .ret (ov d [(6, .int .i64 xq6), (7, .int .i64 xq7)]) w) = codeW Tryz.prog hT 67 D (tab l0tb) [0, 0, 1, 1, 1, 1] l0b (thenQ (l0Tk k Q) (widen l0LO Q)) (ov σ [(0, .pointer (some at0)), (2, .func (.func 98) #[] #[]), (8, .int .i64 xt8)]) w := by kernel_rfl
theorem l0_snd : ∀ c, subC [0, 1, 1, 1, 1] body = some c → Snd Tryz.prog 67 c l0T := by
  refine loop_of (hT := hT) (D := D) (l := l0tb) (b := l0b) (lo := l0LO) (by kernel_rfl) (by
    intro x hx
    simp only [l0tb, List.not_mem_nil] at hx
    ) (by kernel_rfl) (by kernel_rfl) ?_ ?_
  · intro Q σ w h
    unfold l0Tk at h
    obtain ⟨_, _, h⟩ := gAd_elim h
    obtain ⟨_, h⟩ := gFn_elim h
    obtain ⟨_, _, h⟩ := gInt_elim h
    exact h
  · intro k Q σ w h
    unfold l0Tk at h
    obtain ⟨at0, h0, h⟩ := gAd_elim h
    obtain ⟨h2, h⟩ := gFn_elim h
    obtain ⟨xt8, h8, h⟩ := gInt_elim h
    rw [l0_eq (σ := σ)] at h
    have e : (ov σ [(0, .pointer (some at0)), (2, .func (.func 98) #[] #[]), (8, .int .i64 xt8)]) = σ := ov_self (by simp [h0, h2, h8])
    rw [e] at h
    exact h
def tb : List (List Nat × Spec) := [([0, 1, 1, 1, 1], l0T)]
variable (aa0 : Addr) (xa1 : Int) (w : World) (Q : Ending → World → Prop)
theorem wp_eq : wp aa0 xa1 w Q = codeW Tryz.prog hT 67 D (tab tb) [] body (topQ Tryz.prog hT 67 [.tmp 6, .tmp 7] Q) (argsF [.pointer (some aa0), .int .i64 xa1, .func (.func 98) #[] #[]]) w := by kernel_rfl
theorem ok (h : wp aa0 xa1 w Q) : Calls Tryz.prog 108 #[.pointer (some aa0), .int .i64 xa1, .func (.func 98) #[] #[]] w Q := by
  rw [wp_eq] at h
  refine calls_of_codeW (c := body) (rs := [.tmp 6, .tmp 7]) Tryz.func108 ?_ ?_ ?_ ?_ ?_ (tab_snd (by
    intro x hx
    simp only [tb, List.mem_cons, List.not_mem_nil, or_false] at hx
    subst hx
    exact l0_snd)) ?_ h <;> kernel_rfl
end f_euler_load_Seek_V
namespace f_euler_load_Plus
noncomputable def body : Code := (Tryz.f164.body).getD .skip
def wp (xa0_0 xa0_1 xa0_2 xa1_0 xa1_1 xa1_2 : Int) (w : World) (Q : Ending → World → Prop) : Prop := alW w (.cells #[.int .i64 xa0_0, .int .i64 xa0_1, .int .i64 xa0_2] 110) fun B1 w2 => alW w2 (.cells #[.int .i64 xa1_0, .int .i64 xa1_1, .int .i64 xa1_2] 110) fun B3 w4 => alW w4 (.cells #[.int .i64 0, .int .i64 0, .int .i64 0] 110) fun B5 w6 => ldI w6 ⟨B1, 0, none⟩ .i64 fun x7 => ldI w6 ⟨B3, 0, none⟩ .i64 fun x8 => ldI w6 (.add ⟨B1, 0, none⟩ 1) .i64 fun x9 => ldI w6 (.add ⟨B3, 0, none⟩ 1) .i64 fun x10 => ldI w6 (.add ⟨B1, 0, none⟩ 2) .i64 fun x11 => ldI w6 (.add ⟨B3, 0, none⟩ 2) .i64 fun x12 => stW w6 ⟨B5, 0, none⟩ (.int .i64 (IntKind.i64.wrap (x7 + x8))) fun w13 => stW w13 (.add ⟨B5, 0, none⟩ 1) (.int .i64 (IntKind.i64.wrap (x9 + x10))) fun w14 => stW w14 (.add ⟨B5, 0, none⟩ 2) (.int .i64 (IntKind.i64.wrap (x11 + x12))) fun w15 => ldI w15 ⟨B5, 0, none⟩ .i64 fun x16 => ldI w15 (.add ⟨B5, 0, none⟩ 1) .i64 fun x17 => ldI w15 (.add ⟨B5, 0, none⟩ 2) .i64 fun x18 => Q (.returned (.agg #[.int .i64 x16, .int .i64 x17, .int .i64 x18])) w15
def D : Nat → Option DH := dtab []
def tb : List (List Nat × Spec) := []
variable (xa0_0 xa0_1 xa0_2 xa1_0 xa1_1 xa1_2 : Int) (w : World) (Q : Ending → World → Prop)
theorem wp_eq : wp xa0_0 xa0_1 xa0_2 xa1_0 xa1_1 xa1_2 w Q = codeW Tryz.prog hT 21 D (tab tb) [] body (topQ Tryz.prog hT 21 [.cell 4 110] Q) (argsF [.agg #[.int .i64 xa0_0, .int .i64 xa0_1, .int .i64 xa0_2], .agg #[.int .i64 xa1_0, .int .i64 xa1_1, .int .i64 xa1_2]]) w := by kernel_rfl
theorem ok (h : wp xa0_0 xa0_1 xa0_2 xa1_0 xa1_1 xa1_2 w Q) : Calls Tryz.prog 164 #[.agg #[.int .i64 xa0_0, .int .i64 xa0_1, .int .i64 xa0_2], .agg #[.int .i64 xa1_0, .int .i64 xa1_1, .int .i64 xa1_2]] w Q := by
  rw [wp_eq] at h
  refine calls_of_codeW (c := body) (rs := [.cell 4 110]) Tryz.func164 ?_ ?_ ?_ ?_ ?_ (tab_snd (by
    intro x hx
    simp only [tb, List.not_mem_nil] at hx
    )) ?_ h <;> kernel_rfl
end f_euler_load_Plus
namespace f_euler_Forest_SomeE_1
noncomputable def body : Code := (Tryz.f97.body).getD .skip
def wp (xa0_0 xa0_1 xa0_2 : Int) (w : World) (Q : Ending → World → Prop) : Prop := alW w (.cells #[.int .i64 xa0_0, .int .i64 xa0_1, .int .i64 xa0_2] 110) fun B1 w2 => ldI w2 (.add ⟨B1, 0, none⟩ 2) .i64 fun x3 => Q (.returned (.bool (decide (x3 > 0)))) w2
def D : Nat → Option DH := dtab []
def tb : List (List Nat × Spec) := []
variable (xa0_0 xa0_1 xa0_2 : Int) (w : World) (Q : Ending → World → Prop)
theorem wp_eq : wp xa0_0 xa0_1 xa0_2 w Q = codeW Tryz.prog hT 6 D (tab tb) [] body (topQ Tryz.prog hT 6 [.tmp 2] Q) (argsF [.agg #[.int .i64 xa0_0, .int .i64 xa0_1, .int .i64 xa0_2]]) w := by kernel_rfl
theorem ok (h : wp xa0_0 xa0_1 xa0_2 w Q) : Calls Tryz.prog 97 #[.agg #[.int .i64 xa0_0, .int .i64 xa0_1, .int .i64 xa0_2]] w Q := by
  rw [wp_eq] at h
  refine calls_of_codeW (c := body) (rs := [.tmp 2]) Tryz.func97 ?_ ?_ ?_ ?_ ?_ (tab_snd (by
    intro x hx
    simp only [tb, List.not_mem_nil] at hx
    )) ?_ h <;> kernel_rfl
end f_euler_Forest_SomeE_1
namespace f_euler_Forest_SomeV_1
noncomputable def body : Code := (Tryz.f98.body).getD .skip
def wp (xa0_0 xa0_1 xa0_2 : Int) (w : World) (Q : Ending → World → Prop) : Prop := alW w (.cells #[.int .i64 xa0_0, .int .i64 xa0_1, .int .i64 xa0_2] 110) fun B1 w2 => ldI w2 (.add ⟨B1, 0, none⟩ 1) .i64 fun x3 => Q (.returned (.bool (decide (x3 > 0)))) w2
def D : Nat → Option DH := dtab []
def tb : List (List Nat × Spec) := []
variable (xa0_0 xa0_1 xa0_2 : Int) (w : World) (Q : Ending → World → Prop)
theorem wp_eq : wp xa0_0 xa0_1 xa0_2 w Q = codeW Tryz.prog hT 6 D (tab tb) [] body (topQ Tryz.prog hT 6 [.tmp 2] Q) (argsF [.agg #[.int .i64 xa0_0, .int .i64 xa0_1, .int .i64 xa0_2]]) w := by kernel_rfl
theorem ok (h : wp xa0_0 xa0_1 xa0_2 w Q) : Calls Tryz.prog 98 #[.agg #[.int .i64 xa0_0, .int .i64 xa0_1, .int .i64 xa0_2]] w Q := by
  rw [wp_eq] at h
  refine calls_of_codeW (c := body) (rs := [.tmp 2]) Tryz.func98 ?_ ?_ ?_ ?_ ?_ (tab_snd (by
    intro x hx
    simp only [tb, List.not_mem_nil] at hx
    )) ?_ h <;> kernel_rfl
end f_euler_Forest_SomeV_1
namespace f_euler_load_All
noncomputable def body : Code := (Tryz.f77.body).getD .skip
def wp (aa0 : Addr) (xa1 : Int) (w : World) (Q : Ending → World → Prop) : Prop := alW w (.cells #[.int .i64 0, .int .i64 0, .int .i64 0] 110) fun B1 w2 => alW w2 (.cells #[.int .i64 xa1] 3) fun B3 w4 => Calls Tryz.prog 82 #[.pointer (some aa0), .slice (some ⟨B3, 0, none⟩) 1 1] w4 fun e5 w6 => ∃ b7, e5 = .returned (.bool b7) ∧ (sel b7 (ldI w6 ⟨B1, 0, none⟩ .i64 fun x8 => ldI w6 (.add ⟨B1, 0, none⟩ 1) .i64 fun x9 => ldI w6 (.add ⟨B1, 0, none⟩ 2) .i64 fun x10 => stW w6 ⟨B1, 0, none⟩ (.int .i64 x8) fun w11 => stW w11 (.add ⟨B1, 0, none⟩ 1) (.int .i64 x9) fun w12 => stW w12 (.add ⟨B1, 0, none⟩ 2) (.int .i64 x10) fun w13 => ldI w13 ⟨B1, 0, none⟩ .i64 fun x14 => ldI w13 (.add ⟨B1, 0, none⟩ 1) .i64 fun x15 => ldI w13 (.add ⟨B1, 0, none⟩ 2) .i64 fun x16 => Q (.returned (.tuple #[.agg #[.int .i64 x14, .int .i64 x15, .int .i64 x16], .int .i64 150])) w13) (drW w6 fun w17 => ∃ S18 : World → Prop, S18 w17 ∧ (hdS S18 aa0 fun A19 n19 c19 => Calls Tryz.prog 83 #[.pointer (some aa0), .int .i64 xa1] w17 fun e20 w21 => ∃ x22, e20 = .returned (.int .i64 x22) ∧ (S18 w21 ∧ (optB A19 fun a23 => req (decide (0 ≤ x22 ∧ x22 < (n19 : Int))) <| hdI S18 ((a23.add (x22.toNat * 11)).add 8) .i64 fun x24 => hdI S18 (((a23.add (x22.toNat * 11)).add 8).add 1) .i64 fun x25 => hdI S18 (((a23.add (x22.toNat * 11)).add 8).add 2) .i64 fun x26 => stW w21 ⟨B1, 0, none⟩ (.int .i64 x24) fun w27 => stW w27 (.add ⟨B1, 0, none⟩ 1) (.int .i64 x25) fun w28 => stW w28 (.add ⟨B1, 0, none⟩ 2) (.int .i64 x26) fun w29 => ldI w29 ⟨B1, 0, none⟩ .i64 fun x30 => ldI w29 (.add ⟨B1, 0, none⟩ 1) .i64 fun x31 => ldI w29 (.add ⟨B1, 0, none⟩ 2) .i64 fun x32 => Q (.returned (.tuple #[.agg #[.int .i64 x30, .int .i64 x31, .int .i64 x32], .int .i64 0])) w29)))))
def D : Nat → Option DH := dtab [(3, .held [.fst 0, .fst 1, .fst 2, .fst 3, .fst 4, .fst 5, .eff 6, .fst 7, .fst 8, .fst 9] [.eff 10, .fst 11])]
def tb : List (List Nat × Spec) := []
variable (aa0 : Addr) (xa1 : Int) (w : World) (Q : Ending → World → Prop)
theorem wp_eq : wp aa0 xa1 w Q = codeW Tryz.prog hT 21 D (tab tb) [] body (topQ Tryz.prog hT 21 [.cell 4 110, .tmp 5] Q) (argsF [.pointer (some aa0), .int .i64 xa1]) w := by kernel_rfl
theorem ok (h : wp aa0 xa1 w Q) : Calls Tryz.prog 77 #[.pointer (some aa0), .int .i64 xa1] w Q := by
  rw [wp_eq] at h
  refine calls_of_codeW (c := body) (rs := [.cell 4 110, .tmp 5]) Tryz.func77 ?_ ?_ ?_ ?_ ?_ (tab_snd (by
    intro x hx
    simp only [tb, List.not_mem_nil] at hx
    )) ?_ h <;> kernel_rfl
end f_euler_load_All
namespace f_euler_load_Same
noncomputable def body : Code := (Tryz.f56.body).getD .skip
def wp (aa0 : Addr) (xa1 xa2 : Int) (w : World) (Q : Ending → World → Prop) : Prop := alW w (.cells #[.int .i64 xa1, .int .i64 xa2] 3) fun B1 w2 => Calls Tryz.prog 82 #[.pointer (some aa0), .slice (some ⟨B1, 0, none⟩) 2 2] w2 fun e3 w4 => ∃ b5, e3 = .returned (.bool b5) ∧ (sel b5 (Q (.returned (.tuple #[.bool false, .int .i64 150])) w4) (Calls Tryz.prog 83 #[.pointer (some aa0), .int .i64 xa1] w4 fun e6 w7 => ∃ x8, e6 = .returned (.int .i64 x8) ∧ (Calls Tryz.prog 83 #[.pointer (some aa0), .int .i64 xa2] w7 fun e9 w10 => ∃ x11, e9 = .returned (.int .i64 x11) ∧ (Q (.returned (.tuple #[.bool (x8 == x11), .int .i64 0])) w10))))
def D : Nat → Option DH := dtab []
def tb : List (List Nat × Spec) := []
variable (aa0 : Addr) (xa1 xa2 : Int) (w : World) (Q : Ending → World → Prop)
theorem wp_eq : wp aa0 xa1 xa2 w Q = codeW Tryz.prog hT 20 D (tab tb) [] body (topQ Tryz.prog hT 20 [.tmp 6, .tmp 7] Q) (argsF [.pointer (some aa0), .int .i64 xa1, .int .i64 xa2]) w := by kernel_rfl
theorem ok (h : wp aa0 xa1 xa2 w Q) : Calls Tryz.prog 56 #[.pointer (some aa0), .int .i64 xa1, .int .i64 xa2] w Q := by
  rw [wp_eq] at h
  refine calls_of_codeW (c := body) (rs := [.tmp 6, .tmp 7]) Tryz.func56 ?_ ?_ ?_ ?_ ?_ (tab_snd (by
    intro x hx
    simp only [tb, List.not_mem_nil] at hx
    )) ?_ h <;> kernel_rfl
end f_euler_load_Same
namespace f_euler_load_Join
noncomputable def body : Code := (Tryz.f64.body).getD .skip
def wp (aa0 : Addr) (xa1 xa2 : Int) (w : World) (Q : Ending → World → Prop) : Prop := alW w (.cells #[.int .i64 xa1, .int .i64 xa2] 3) fun B1 w2 => Calls Tryz.prog 82 #[.pointer (some aa0), .slice (some ⟨B1, 0, none⟩) 2 2] w2 fun e3 w4 => ∃ b5, e3 = .returned (.bool b5) ∧ (sel b5 (Q (.returned (.int .i64 150)) w4) (Calls Tryz.prog 83 #[.pointer (some aa0), .int .i64 xa1] w4 fun e6 w7 => ∃ x8, e6 = .returned (.int .i64 x8) ∧ (Calls Tryz.prog 83 #[.pointer (some aa0), .int .i64 xa2] w7 fun e9 w10 => ∃ x11, e9 = .returned (.int .i64 x11) ∧ (sel (x8 == x11) (Q (.returned (.int .i64 151)) w10) (Calls Tryz.prog 92 #[.pointer (some aa0), .int .i64 x8, .int .i64 x11] w10 fun e12 w13 => ∃ x14, e12 = .returned (.int .i64 x14) ∧ (Calls Tryz.prog 91 #[.pointer (some aa0), .int .i64 x14] w13 fun e15 w16 => e15 = .returned (.tuple #[]) ∧ (Q (.returned (.int .i64 0)) w16)))))))
def D : Nat → Option DH := dtab []
def tb : List (List Nat × Spec) := []
variable (aa0 : Addr) (xa1 xa2 : Int) (w : World) (Q : Ending → World → Prop)
theorem wp_eq : wp aa0 xa1 xa2 w Q = codeW Tryz.prog hT 29 D (tab tb) [] body (topQ Tryz.prog hT 29 [.tmp 6] Q) (argsF [.pointer (some aa0), .int .i64 xa1, .int .i64 xa2]) w := by kernel_rfl
theorem ok (h : wp aa0 xa1 xa2 w Q) : Calls Tryz.prog 64 #[.pointer (some aa0), .int .i64 xa1, .int .i64 xa2] w Q := by
  rw [wp_eq] at h
  refine calls_of_codeW (c := body) (rs := [.tmp 6]) Tryz.func64 ?_ ?_ ?_ ?_ ?_ (tab_snd (by
    intro x hx
    simp only [tb, List.not_mem_nil] at hx
    )) ?_ h <;> kernel_rfl
end f_euler_load_Join
namespace f_euler_load_Set
noncomputable def body : Code := (Tryz.f65.body).getD .skip
def l0 : Nat → Addr → Int → World → (World → Prop) → Prop | 0, _, _, _, _ => False | k + 1, at0, xt1, w, K0 => sel (decide (xt1 > 0)) (Calls Tryz.prog 93 #[.pointer (some at0), .int .i64 xt1] w fun e18 w19 => e18 = .returned (.tuple #[]) ∧ (ldS w19 at0 fun A20 n20 c20 => optB A20 fun a21 => req (decide (0 ≤ xt1 ∧ xt1 < (n20 : Int))) <| ldI w19 ((a21.add (xt1.toNat * 11)).add 2) .i64 fun x22 => l0 k at0 x22 w19 K0)) (K0 w)
def wp (aa0 : Addr) (xa1 xa2_0 xa2_1 xa2_2 : Int) (w : World) (Q : Ending → World → Prop) : Prop := alW w (.cells #[.int .i64 xa2_0, .int .i64 xa2_1, .int .i64 xa2_2] 110) fun B1 w2 => alW w2 (.cells #[.int .i64 xa1] 3) fun B3 w4 => Calls Tryz.prog 82 #[.pointer (some aa0), .slice (some ⟨B3, 0, none⟩) 1 1] w4 fun e5 w6 => ∃ b7, e5 = .returned (.bool b7) ∧ (sel b7 (Q (.returned (.int .i64 150)) w6) (drW w6 fun w8 => ldS w8 aa0 fun A10 n10 c10 => ldI w8 ⟨B1, 0, none⟩ .i64 fun x11 => ldI w8 (.add ⟨B1, 0, none⟩ 1) .i64 fun x12 => ldI w8 (.add ⟨B1, 0, none⟩ 2) .i64 fun x13 => optB A10 fun a14 => req (decide (0 ≤ xa1 ∧ xa1 < (n10 : Int))) <| stW w8 ((a14.add (xa1.toNat * 11)).add 5) (.int .i64 x11) fun w15 => stW w15 (((a14.add (xa1.toNat * 11)).add 5).add 1) (.int .i64 x12) fun w16 => stW w16 (((a14.add (xa1.toNat * 11)).add 5).add 2) (.int .i64 x13) fun w17 => ∃ k24, l0 k24 aa0 xa1 w17 (fun w23 => ∀ _ : Fr, Q (.returned (.int .i64 0)) w23)))
def D : Nat → Option DH := dtab [(3, .simple [.fst 0, .fst 1, .fst 2, .fst 3, .fst 4, .fst 5] [.fst 6, .fst 7, .eff 8])]
def l0LO : LO := ⟨[], [], [(0, [])], []⟩
def l0Tk (k : Nat) : Spec := fun Q σ w => gAd (σ 0) fun at0 => gInt .i64 (σ 1) fun xt1 => l0 k at0 xt1 w (fun w => ∀ d : Fr, Q (.exit 0) (ov d []) w)
def l0T : Spec := fun Q σ w => ∃ k, l0Tk k Q σ w
def l0tb : List (List Nat × Spec) := []
noncomputable def l0b : Code := (subC [0, 0, 0, 1, 1, 1] body).getD .skip
theorem l0_eq (k : Nat) (at0 : Addr) (xt1 : Int) (Q : PQ) (σ : Fr) (w : World) : l0 (k + 1) at0 xt1 w (fun w => ∀ d : Fr, Q (.exit 0) (ov d []) w) = codeW Tryz.prog hT 32 D (tab l0tb) [0, 0, 0, 1, 1, 1] l0b (thenQ (l0Tk k Q) (widen l0LO Q)) (ov σ [(0, .pointer (some at0)), (1, .int .i64 xt1)]) w := by kernel_rfl
theorem l0_snd : ∀ c, subC [0, 0, 1, 1, 1] body = some c → Snd Tryz.prog 32 c l0T := by
  refine loop_of (hT := hT) (D := D) (l := l0tb) (b := l0b) (lo := l0LO) (by kernel_rfl) (by
    intro x hx
    simp only [l0tb, List.not_mem_nil] at hx
    ) (by kernel_rfl) (by kernel_rfl) ?_ ?_
  · intro Q σ w h
    unfold l0Tk at h
    obtain ⟨_, _, h⟩ := gAd_elim h
    obtain ⟨_, _, h⟩ := gInt_elim h
    exact h
  · intro k Q σ w h
    unfold l0Tk at h
    obtain ⟨at0, h0, h⟩ := gAd_elim h
    obtain ⟨xt1, h1, h⟩ := gInt_elim h
    rw [l0_eq (σ := σ)] at h
    have e : (ov σ [(0, .pointer (some at0)), (1, .int .i64 xt1)]) = σ := ov_self (by simp [h0, h1])
    rw [e] at h
    exact h
def tb : List (List Nat × Spec) := [([0, 0, 1, 1, 1], l0T)]
variable (aa0 : Addr) (xa1 xa2_0 xa2_1 xa2_2 : Int) (w : World) (Q : Ending → World → Prop)
theorem wp_eq : wp aa0 xa1 xa2_0 xa2_1 xa2_2 w Q = codeW Tryz.prog hT 32 D (tab tb) [] body (topQ Tryz.prog hT 32 [.tmp 6] Q) (argsF [.pointer (some aa0), .int .i64 xa1, .agg #[.int .i64 xa2_0, .int .i64 xa2_1, .int .i64 xa2_2]]) w := by kernel_rfl
theorem ok (h : wp aa0 xa1 xa2_0 xa2_1 xa2_2 w Q) : Calls Tryz.prog 65 #[.pointer (some aa0), .int .i64 xa1, .agg #[.int .i64 xa2_0, .int .i64 xa2_1, .int .i64 xa2_2]] w Q := by
  rw [wp_eq] at h
  refine calls_of_codeW (c := body) (rs := [.tmp 6]) Tryz.func65 ?_ ?_ ?_ ?_ ?_ (tab_snd (by
    intro x hx
    simp only [tb, List.mem_cons, List.not_mem_nil, or_false] at hx
    subst hx
    exact l0_snd)) ?_ h <;> kernel_rfl
end f_euler_load_Set
namespace f_euler_load_Cut
noncomputable def body : Code := (Tryz.f68.body).getD .skip
def wp (aa0 : Addr) (xa1 : Int) (w : World) (Q : Ending → World → Prop) : Prop := alW w (.cells #[.int .i64 xa1] 3) fun B1 w2 => Calls Tryz.prog 82 #[.pointer (some aa0), .slice (some ⟨B1, 0, none⟩) 1 1] w2 fun e3 w4 => ∃ b5, e3 = .returned (.bool b5) ∧ (sel b5 (Q (.returned (.int .i64 150)) w4) (Calls Tryz.prog 83 #[.pointer (some aa0), .int .i64 xa1] w4 fun e6 w7 => ∃ x8, e6 = .returned (.int .i64 x8) ∧ (Calls Tryz.prog 95 #[.pointer (some aa0), .int .i64 xa1] w7 fun e9 w10 => ∃ x11, e9 = .returned (.int .i64 x11) ∧ (Calls Tryz.prog 94 #[.pointer (some aa0), .int .i64 x8, .int .i64 x11] w10 fun e12 w13 => ∃ x14_0 x14_1, e12 = .returned (.tuple #[.int .i64 x14_0, .int .i64 x14_1]) ∧ (Calls Tryz.prog 91 #[.pointer (some aa0), .int .i64 x14_0] w13 fun e15 w16 => e15 = .returned (.tuple #[]) ∧ (Calls Tryz.prog 91 #[.pointer (some aa0), .int .i64 x14_1] w16 fun e17 w18 => e17 = .returned (.tuple #[]) ∧ (Q (.returned (.int .i64 0)) w18)))))))
def D : Nat → Option DH := dtab []
def tb : List (List Nat × Spec) := []
variable (aa0 : Addr) (xa1 : Int) (w : World) (Q : Ending → World → Prop)
theorem wp_eq : wp aa0 xa1 w Q = codeW Tryz.prog hT 28 D (tab tb) [] body (topQ Tryz.prog hT 28 [.tmp 4] Q) (argsF [.pointer (some aa0), .int .i64 xa1]) w := by kernel_rfl
theorem ok (h : wp aa0 xa1 w Q) : Calls Tryz.prog 68 #[.pointer (some aa0), .int .i64 xa1] w Q := by
  rw [wp_eq] at h
  refine calls_of_codeW (c := body) (rs := [.tmp 4]) Tryz.func68 ?_ ?_ ?_ ?_ ?_ (tab_snd (by
    intro x hx
    simp only [tb, List.not_mem_nil] at hx
    )) ?_ h <;> kernel_rfl
end f_euler_load_Cut
end Go.Proofs.YtbhhbnnmdekjiaaGreat.Rd
