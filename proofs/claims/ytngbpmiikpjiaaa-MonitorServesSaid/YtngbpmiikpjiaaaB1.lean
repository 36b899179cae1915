/- Lemmas for the statements of this seat: VmN VmW VmX MV MW. -/
import Derived.Test.YtngbpmiikpjiaaaB0b
set_option linter.all false
section
namespace Go.Vm
attribute [simp] planV
attribute [simp] capV appNV isObj C.isO partsV okV mObj lookV mupV mentV mstV findE planV
attribute [simp] items itOf gate evEff evPure St.put St.ev upd dstOk vOf cOf binV ptrNil intV strV unV evLoad mkV idxAddrV idxV fldAddrV bndV sliceV lenV minV maxV capsOf extV fieldV convV intsOf buildV fillC cellsAll sliceEls storeV appV appCore St.setBx St.setRw
attribute [simp] C.known C.strip V.cells V.strip thenS blockS st0 st0B bxOf rwOf resV resAll resOne BxIs RwIs St.setBxs St.clrRws St.setRws Wks


/-! ## Evaluation by simp: no continuation is looked into before its turn -/
def RunK (P : Program) (d : Bool) (is : List It) (K : St → Prop) (st : St) : Prop := RunOps P d is st K
def optK (x : Option (St × V)) (dst : Option Tmp) (K : St → Prop) : Prop := match x with
  | some sv => K (sv.1.put dst sv.2)
  | none => False
def gateK (P : Program) (d : Bool) (g : Option Bool) (op : Op) (dst : Option Tmp) (st : St) (K : St → Prop) : Prop := match g with
  | some true => dstOk st dst = true ∧ OpK P d op dst st K
  | some false => dstOk st dst = true ∧ K (st.put dst (.c .und))
  | none => False
def goCall : Op → Bool
  | .call { callee := .value _, .. } => true
  | _ => false
@[simp] theorem RunK_apply (P : Program) (d : Bool) (is : List It) (K : St → Prop) (st : St) : RunK P d is K st = RunOps P d is st K := rfl
@[simp] theorem RunOps_nil (P : Program) (d : Bool) (K : St → Prop) (st : St) : RunOps P d [] st K = K st := rfl
@[simp] theorem RunOps_cons (P : Program) (d : Bool) (i : It) (is : List It) (K : St → Prop) (st : St) : RunOps P d (i :: is) st K = gateK P d (gate i.gd st) i.op i.dst st (RunK P d is K) := rfl
@[simp] theorem gateK_true (P : Program) (d : Bool) (op : Op) (dst : Option Tmp) (st : St) (K : St → Prop) : gateK P d (some true) op dst st K = (dstOk st dst = true ∧ OpK P d op dst st K) := rfl
@[simp] theorem gateK_false (P : Program) (d : Bool) (op : Op) (dst : Option Tmp) (st : St) (K : St → Prop) : gateK P d (some false) op dst st K = (dstOk st dst = true ∧ K (st.put dst (.c .und))) := rfl
@[simp] theorem optK_some (s : St) (v : V) (dst : Option Tmp) (K : St → Prop) : optK (some (s, v)) dst K = K (s.put dst v) := rfl
theorem OpK_op {P : Program} {d : Bool} {op : Op} (dst : Option Tmp) (st : St) (K : St → Prop) (h : goCall op = false) : OpK P d op dst st K = ∀ β, optK (evEff P op dst st β) dst K := by
  unfold OpK
  split
  · simp [goCall] at h
  · rfl
theorem OpK_calm {P : Program} {d : Bool} {op : Op} (dst : Option Tmp) (st : St) (K : St → Prop) (h : goCall op = false) (he : isEff op = false) : OpK P d op dst st K = optK (evEff P op dst st 0) dst K := by
  rw [OpK_op dst st K h]
  apply propext
  rcases evEff_calm (P := P) (dst := dst) (st := st) he with hn | ⟨v, hv⟩
  · exact ⟨fun h => h 0, fun h β => by rw [hn] at h ⊢; exact h⟩
  · exact ⟨fun h => h 0, fun h β => by rw [hv] at h ⊢; exact h⟩
@[simp] theorem OpK_go (P : Program) (d : Bool) (fo : Operand) (args : Array Operand) (ats : Array TypeId) (dst : Option Tmp) (st : St) (K : St → Prop) :
    OpK P d (.call { callee := .value fo, args := args, argTypes := ats }) dst st K = (match st.ev fo with | .c (.fn f caps) => CallK P d f (args.toList.map st.ev ++ caps.map .c) st dst K | _ => False) := rfl
@[simp] theorem OpK_load (P : Program) (d : Bool) (t : TypeId) (x : Operand) (dst : Option Tmp) (st : St) (K : St → Prop) : OpK P d (.load t x) dst st K = optK (evEff P (.load t x) dst st 0) dst K := OpK_calm dst st K rfl rfl
@[simp] theorem OpK_store (P : Program) (d : Bool) (t : TypeId) (x y : Operand) (dst : Option Tmp) (st : St) (K : St → Prop) : OpK P d (.store t x y) dst st K = optK (evEff P (.store t x y) dst st 0) dst K := by
  rw [OpK_op dst st K rfl]
  exact propext ⟨fun h => h 0, fun h _ => h⟩
@[simp] theorem OpK_alloc (P : Program) (d : Bool) (t : TypeId) (dst : Option Tmp) (st : St) (K : St → Prop) : OpK P d (.alloc t) dst st K = ∀ β, optK (evEff P (.alloc t) dst st β) dst K := OpK_op dst st K rfl
@[simp] theorem OpK_box (P : Program) (d : Bool) (t : TypeId) (x : Operand) (dst : Option Tmp) (st : St) (K : St → Prop) : OpK P d (.box t x) dst st K = ∀ β, optK (evEff P (.box t x) dst st β) dst K := OpK_op dst st K rfl
@[simp] theorem OpK_append (P : Program) (d : Bool) (args : Array Operand) (ats : Array TypeId) (dst : Option Tmp) (st : St) (K : St → Prop) :
    OpK P d (.call { callee := .builtin .append, args := args, argTypes := ats }) dst st K = ∀ β, optK (evEff P (.call { callee := .builtin .append, args := args, argTypes := ats }) dst st β) dst K := OpK_op dst st K rfl
@[simp] theorem OpK_move (P : Program) (d : Bool) (x : Operand) (dst : Option Tmp) (st : St) (K : St → Prop) : OpK P d (.move x) dst st K = optK ((evPure P st.ev st.bx (.move x)).map fun v => (st, v)) dst K := OpK_calm dst st K rfl rfl
@[simp] theorem OpK_assign (P : Program) (d : Bool) (x : Operand) (dst : Option Tmp) (st : St) (K : St → Prop) : OpK P d (.assign x) dst st K = optK ((evPure P st.ev st.bx (.assign x)).map fun v => (st, v)) dst K := OpK_calm dst st K rfl rfl
@[simp] theorem OpK_pick (P : Program) (d : Bool) (c : Operand) (x : Operand) (y : Operand) (dst : Option Tmp) (st : St) (K : St → Prop) : OpK P d (.pick c x y) dst st K = optK ((evPure P st.ev st.bx (.pick c x y)).map fun v => (st, v)) dst K := OpK_calm dst st K rfl rfl
@[simp] theorem OpK_build (P : Program) (d : Bool) (t : TypeId) (ps : Array (Nat × Operand)) (dst : Option Tmp) (st : St) (K : St → Prop) : OpK P d (.build t ps) dst st K = optK (evEff P (.build t ps) dst st 0) dst K := OpK_calm dst st K rfl rfl
@[simp] theorem OpK_binOp (P : Program) (d : Bool) (o : BinOp) (t : TypeId) (x : Operand) (y : Operand) (t2 : TypeId) (dst : Option Tmp) (st : St) (K : St → Prop) : OpK P d (.binOp o t x y t2) dst st K = optK ((evPure P st.ev st.bx (.binOp o t x y t2)).map fun v => (st, v)) dst K := OpK_calm dst st K rfl rfl
@[simp] theorem OpK_unOp (P : Program) (d : Bool) (o : UnOp) (t : TypeId) (x : Operand) (dst : Option Tmp) (st : St) (K : St → Prop) : OpK P d (.unOp o t x) dst st K = optK ((evPure P st.ev st.bx (.unOp o t x)).map fun v => (st, v)) dst K := OpK_calm dst st K rfl rfl
@[simp] theorem OpK_convert (P : Program) (d : Bool) (t : TypeId) (t2 : TypeId) (x : Operand) (dst : Option Tmp) (st : St) (K : St → Prop) : OpK P d (.convert t t2 x) dst st K = optK ((evPure P st.ev st.bx (.convert t t2 x)).map fun v => (st, v)) dst K := OpK_calm dst st K rfl rfl
@[simp] theorem OpK_makeFunc (P : Program) (d : Bool) (fn : Fn) (p : Array Operand) (q : Array Operand) (dst : Option Tmp) (st : St) (K : St → Prop) : OpK P d (.makeFunc fn p q) dst st K = optK ((evPure P st.ev st.bx (.makeFunc fn p q)).map fun v => (st, v)) dst K := OpK_calm dst st K rfl rfl
@[simp] theorem OpK_makeSlice (P : Program) (d : Bool) (t : TypeId) (x : Operand) (y : Operand) (dst : Option Tmp) (st : St) (K : St → Prop) : OpK P d (.makeSlice t x y) dst st K = optK ((evPure P st.ev st.bx (.makeSlice t x y)).map fun v => (st, v)) dst K := OpK_calm dst st K rfl rfl
@[simp] theorem OpK_slice (P : Program) (d : Bool) (t : TypeId) (x : Operand) (l : Option Operand) (h : Option Operand) (m : Option Operand) (dst : Option Tmp) (st : St) (K : St → Prop) : OpK P d (.slice t x l h m) dst st K = optK ((evPure P st.ev st.bx (.slice t x l h m)).map fun v => (st, v)) dst K := OpK_calm dst st K rfl rfl
@[simp] theorem OpK_fieldAddr (P : Program) (d : Bool) (t : TypeId) (x : Operand) (f : Nat) (dst : Option Tmp) (st : St) (K : St → Prop) : OpK P d (.fieldAddr t x f) dst st K = optK ((evPure P st.ev st.bx (.fieldAddr t x f)).map fun v => (st, v)) dst K := OpK_calm dst st K rfl rfl
@[simp] theorem OpK_field (P : Program) (d : Bool) (t : TypeId) (x : Operand) (f : Nat) (dst : Option Tmp) (st : St) (K : St → Prop) : OpK P d (.field t x f) dst st K = optK ((evPure P st.ev st.bx (.field t x f)).map fun v => (st, v)) dst K := OpK_calm dst st K rfl rfl
@[simp] theorem OpK_indexAddr (P : Program) (d : Bool) (t : TypeId) (x : Operand) (y : Operand) (dst : Option Tmp) (st : St) (K : St → Prop) : OpK P d (.indexAddr t x y) dst st K = optK ((evPure P st.ev st.bx (.indexAddr t x y)).map fun v => (st, v)) dst K := OpK_calm dst st K rfl rfl
@[simp] theorem OpK_index (P : Program) (d : Bool) (t : TypeId) (x : Operand) (y : Operand) (dst : Option Tmp) (st : St) (K : St → Prop) : OpK P d (.index t x y) dst st K = optK ((evPure P st.ev st.bx (.index t x y)).map fun v => (st, v)) dst K := OpK_calm dst st K rfl rfl
@[simp] theorem OpK_extract (P : Program) (d : Bool) (x : Operand) (f : Nat) (dst : Option Tmp) (st : St) (K : St → Prop) : OpK P d (.extract x f) dst st K = optK ((evPure P st.ev st.bx (.extract x f)).map fun v => (st, v)) dst K := OpK_calm dst st K rfl rfl
@[simp] theorem OpK_nilCheck (P : Program) (d : Bool) (x : Operand) (dst : Option Tmp) (st : St) (K : St → Prop) : OpK P d (.nilCheck x) dst st K = optK ((evPure P st.ev st.bx (.nilCheck x)).map fun v => (st, v)) dst K := OpK_calm dst st K rfl rfl
@[simp] theorem OpK_len (P : Program) (d : Bool) (args : Array Operand) (ats : Array TypeId) (dst : Option Tmp) (st : St) (K : St → Prop) : OpK P d (.call { callee := .builtin .len, args := args, argTypes := ats }) dst st K = optK (evEff P (.call { callee := .builtin .len, args := args, argTypes := ats }) dst st 0) dst K := OpK_calm dst st K rfl rfl
@[simp] theorem OpK_cap (P : Program) (d : Bool) (args : Array Operand) (ats : Array TypeId) (dst : Option Tmp) (st : St) (K : St → Prop) : OpK P d (.call { callee := .builtin .cap, args := args, argTypes := ats }) dst st K = optK (evEff P (.call { callee := .builtin .cap, args := args, argTypes := ats }) dst st 0) dst K := OpK_calm dst st K rfl rfl
@[simp] theorem OpK_min (P : Program) (d : Bool) (args : Array Operand) (ats : Array TypeId) (dst : Option Tmp) (st : St) (K : St → Prop) : OpK P d (.call { callee := .builtin .min, args := args, argTypes := ats }) dst st K = optK (evEff P (.call { callee := .builtin .min, args := args, argTypes := ats }) dst st 0) dst K := OpK_calm dst st K rfl rfl
@[simp] theorem OpK_max (P : Program) (d : Bool) (args : Array Operand) (ats : Array TypeId) (dst : Option Tmp) (st : St) (K : St → Prop) : OpK P d (.call { callee := .builtin .max, args := args, argTypes := ats }) dst st K = optK (evEff P (.call { callee := .builtin .max, args := args, argTypes := ats }) dst st 0) dst K := OpK_calm dst st K rfl rfl
@[simp] theorem OpK_buildSlice (P : Program) (d : Bool) (t : TypeId) (n : Nat) (ps : Array (Nat × Operand)) (dst : Option Tmp) (st : St) (K : St → Prop) :
    OpK P d (.buildSlice t (n + 1) ps) dst st K = optK (evEff P (.buildSlice t (n + 1) ps) dst st 0) dst K := OpK_calm dst st K rfl rfl
@[simp] theorem OpK_buildSlice0 (P : Program) (d : Bool) (t : TypeId) (ps : Array (Nat × Operand)) (dst : Option Tmp) (st : St) (K : St → Prop) :
    OpK P d (.buildSlice t 0 ps) dst st K = ∀ β, optK (evEff P (.buildSlice t 0 ps) dst st β) dst K := OpK_op dst st K rfl

def runItK (P : Program) (it : Option It) (D : List Tmp) (st : St) (K : St → Prop) : Prop := match it with
  | some it => keyOk D it.op st ∧ gateK P true (gate it.gd st) it.op it.dst st K
  | none => False
def RunAK (P : Program) (D : List Tmp) (its : List It) (r : List Nat) (K : St → Prop) (st : St) : Prop := RunA P D its r st K
@[simp] theorem RunAK_apply (P : Program) (D : List Tmp) (its : List It) (r : List Nat) (K : St → Prop) (st : St) : RunAK P D its r K st = RunA P D its r st K := rfl
@[simp] theorem RunA_nil (P : Program) (D : List Tmp) (its : List It) (K : St → Prop) (st : St) : RunA P D its [] st K = K st := rfl
@[simp] theorem RunA_cons (P : Program) (D : List Tmp) (its : List It) (i : Nat) (r : List Nat) (K : St → Prop) (st : St) : RunA P D its (i :: r) st K = runItK P its[i]? D st (RunAK P D its r K) := by
  unfold RunA runItK
  cases its[i]? <;> rfl
@[simp] theorem runItK_some (P : Program) (it : It) (D : List Tmp) (st : St) (K : St → Prop) : runItK P (some it) D st K = (keyOk D it.op st ∧ gateK P true (gate it.gd st) it.op it.dst st K) := rfl
def RunAllK (P : Program) (its : List It) (n : Nat) (l : List Nat) (K : St → Prop) (st : St) : Prop := RunAll P its n l st K
@[simp] theorem RunAllK_apply (P : Program) (its : List It) (n : Nat) (l : List Nat) (K : St → Prop) (st : St) : RunAllK P its n l K st = RunAll P its n l st K := rfl
@[simp] theorem RunAll_zero (P : Program) (its : List It) (l : List Nat) (K : St → Prop) (st : St) : RunAll P its 0 l st K = K st := rfl
def stepAll (P : Program) (it : Option It) (st : St) (K : St → Prop) : Prop := match it with
  | some it => gateK P true (gate it.gd st) it.op it.dst st K
  | none => False
@[simp] theorem stepAll_some (P : Program) (it : It) (st : St) (K : St → Prop) : stepAll P (some it) st K = gateK P true (gate it.gd st) it.op it.dst st K := rfl
@[simp] theorem RunAll_succ (P : Program) (its : List It) (n : Nat) (l : List Nat) (K : St → Prop) (st : St) : RunAll P its (n + 1) l st K = ∀ i ∈ l, stepAll P its[i]? st (RunAllK P its n (l.erase i) K) := by
  unfold RunAll stepAll
  apply propext
  refine forall_congr' fun i => imp_congr Iff.rfl ?_
  cases its[i]? <;> exact Iff.rfl
attribute [simp] keyOk
@[simp] theorem range_1 : List.range 1 = [0] := rfl
@[simp] theorem range_2 : List.range 2 = [0, 1] := rfl
@[simp] theorem range_3 : List.range 3 = [0, 1, 2] := rfl
@[simp] theorem range_4 : List.range 4 = [0, 1, 2, 3] := rfl
@[simp] theorem range_5 : List.range 5 = [0, 1, 2, 3, 4] := rfl
@[simp] theorem range_6 : List.range 6 = [0, 1, 2, 3, 4, 5] := rfl
@[simp] theorem range_7 : List.range 7 = [0, 1, 2, 3, 4, 5, 6] := rfl
@[simp] theorem range_8 : List.range 8 = [0, 1, 2, 3, 4, 5, 6, 7] := rfl
@[simp] theorem range_9 : List.range 9 = [0, 1, 2, 3, 4, 5, 6, 7, 8] := rfl

@[simp] theorem i64w_0 : IntKind.i64.wrap 0 = 0 := rfl
@[simp] theorem i64w_1 : IntKind.i64.wrap 1 = 1 := rfl
@[simp] theorem i64w_2 : IntKind.i64.wrap 2 = 2 := rfl
@[simp] theorem i64w_3 : IntKind.i64.wrap 3 = 3 := rfl
@[simp] theorem i64w_4 : IntKind.i64.wrap 4 = 4 := rfl
@[simp] theorem i64w_5 : IntKind.i64.wrap 5 = 5 := rfl
@[simp] theorem i64w_6 : IntKind.i64.wrap 6 = 6 := rfl
@[simp] theorem i64w_7 : IntKind.i64.wrap 7 = 7 := rfl
@[simp] theorem i64w_8 : IntKind.i64.wrap 8 = 8 := rfl
@[simp] theorem i64w_9 : IntKind.i64.wrap 9 = 9 := rfl
@[simp] theorem i64w_10 : IntKind.i64.wrap 10 = 10 := rfl
@[simp] theorem i64w_11 : IntKind.i64.wrap 11 = 11 := rfl
@[simp] theorem i64w_12 : IntKind.i64.wrap 12 = 12 := rfl
@[simp] theorem i64w_m1 : IntKind.i64.wrap (-1) = -1 := rfl
theorem wrap_i64 {x : Int} (h1 : -9223372036854775808 ≤ x) (h2 : x ≤ 9223372036854775807) : IntKind.i64.wrap x = x := IntWalk.i64_in x ⟨h1, h2⟩
theorem wrap_succ {k : Nat} (h : k < 4611686018427387904) : IntKind.i64.wrap ((k : Int) + 1) = ((k + 1 : Nat) : Int) := by
  rw [wrap_i64 (by omega) (by omega)]; rfl

/-- A slice that grows by append: nil as long as it is empty, then a row of its own. -/
def Grows (st : St) (v : V) (key e sz : Nat) (es : List (List C)) : Prop :=
  (es = [] ∧ ∃ n own, v = .c (.sl true n own [])) ∨ (es ≠ [] ∧ ∃ b, v = .c (.sl false sz (some (key, b)) es) ∧ st.rw key = some (b, es.length, e, sz))

theorem Wk.nil (n n' : Nat) (own own' : Option (Nat × Nat)) : Wk (.c (.sl true n own [])) (.c (.sl true n' own' [])) := by
  intro F w v h
  have h := h.inv
  cases h
  exact .c (.nil _ _)
theorem Wk.untag (nl : Bool) (n : Nat) (own : Option (Nat × Nat)) (es : List (List C)) : Wk (.c (.sl nl n own es)) (.c (.sl nl n none es)) := Wk.strip (.c (.sl nl n own es))
theorem Wk.box (k k' b o : Nat) : Wk (.c (.box k b o)) (.c (.box k' b o)) := by
  intro F w v h
  have h := h.inv
  cases h
  exact .c (.box _ _ _)
theorem Wk.rekey (nl : Bool) (n k k' b : Nat) (es : List (List C)) : Wk (.c (.sl nl n (some (k, b)) es)) (.c (.sl nl n (some (k', b)) es)) := by
  intro F w v h
  have h := h.inv
  cases h with
  | nil => exact .c (.nil _ _)
  | sl b' off cap n own es cells hle hn hlen hF hc h1 hr ho => exact .c (.sl b' off cap n _ es cells hle hn hlen hF hc h1 hr (fun key b2 e => by cases e; exact ho k b rfl))
theorem Wk.agg {cs cs' : List C} (hl : cs.length = cs'.length) (h : ∀ k, k < cs.length → Wk (.c (cs.getD k .any)) (.c (cs'.getD k .any))) : Wk (.agg cs) (.agg cs') := by
  intro F w v hv
  cases hv with
  | agg vs _ hs hr => exact .agg vs cs' (hs.trans hl) (fun k hk => (h k (by omega) F w _ (.c (hr k (by omega)))).inv)
theorem Wk.fn (f : FuncId) {cs cs' : List C} (hl : cs.length = cs'.length) (h : ∀ k, k < cs.length → Wk (.c (cs.getD k .any)) (.c (cs'.getD k .any))) : Wk (.c (.fn f cs)) (.c (.fn f cs')) := by
  intro F w v hv
  have hv := hv.inv
  cases hv with
  | fn _ _ vs hvl hr => exact .c (.fn f cs' vs (by rw [hvl, hl]) fun k hk => (h k (by omega) F w _ (.c (hr k (by omega)))).inv)
theorem Wk.fn1 (f : FuncId) {c c' : C} (h : Wk (.c c) (.c c')) : Wk (.c (.fn f [c])) (.c (.fn f [c'])) := .fn f rfl fun k hk => by
  simp only [List.length_singleton] at hk
  obtain rfl : k = 0 := by omega
  exact h
theorem and_same {K : St → Prop} {s t : St} (h : t = s) (hk : K s) : K s ∧ K t := ⟨hk, h ▸ hk⟩
theorem Wk.agg3 {a b c a' b' c' : C} (h1 : Wk (.c a) (.c a')) (h2 : Wk (.c b) (.c b')) (h3 : Wk (.c c) (.c c')) : Wk (.agg [a, b, c]) (.agg [a', b', c']) :=
  .agg rfl fun k hk => match k, hk with
    | 0, _ => h1
    | 1, _ => h2
    | 2, _ => h3
theorem Wk.tup2 {a b a' b' : V} (h1 : Wk a a') (h2 : Wk b b') : Wk (.tup [a, b]) (.tup [a', b']) := by
  intro F w v hv
  cases hv with
  | tup vs _ hs hr => exact .tup vs _ hs (fun k hk => match k, hk with
    | 0, h0 => h1 F w _ (hr 0 h0)
    | 1, h0 => h2 F w _ (hr 1 h0))
theorem Wk.trans {x y z : V} (h : Wk x y) (k : Wk y z) : Wk x z := fun F w v hv => k F w v (h F w v hv)
theorem Wk.any (x : V) : Wk x (.c .any) := fun F w v _ => .any F w v
theorem Wk.of_eq {x y : V} (h : x = y) : Wk x y := h ▸ .refl x

theorem Grows.wk {st : St} {v : V} {key e sz : Nat} {es : List (List C)} (h : Grows st v key e sz es) : Wk v (.c (.sl es.isEmpty sz none es)) := by
  rcases h with ⟨rfl, n, own, rfl⟩ | ⟨hne, b, rfl, _⟩
  · exact .nil _ _ _ _
  · have : es.isEmpty = false := by cases es <;> simp_all
    rw [this]; exact .untag _ _ _ _
theorem Grows.nil (st : St) (key e sz n : Nat) (own : Option (Nat × Nat)) : Grows st (.c (.sl true n own [])) key e sz [] := .inl ⟨rfl, n, own, rfl⟩
theorem Grows.own {st : St} {key e sz b : Nat} {es : List (List C)} (hne : es ≠ []) (h : st.rw key = some (b, es.length, e, sz)) : Grows st (.c (.sl false sz (some (key, b)) es)) key e sz es := .inr ⟨hne, b, rfl, h⟩

theorem upd_upd {α : Type} (f : Nat → α) (k : Nat) (v u : α) : upd (upd f k v) k u = upd f k u := by
  funext j
  simp only [upd]
  split <;> rfl
/-- A call that is handed a slice of one's own, and hands it back. -/
theorem CallK.row1 {P : Program} {f : FuncId} {args as : List V} {st : St} {dst : Option Tmp} {K : St → Prop} {key b len e n len' : Nat} {es : List (List C)}
    (h : DoesB P f as [] [(key, b, len, e, n)] (fun β => (.c (.sl false n (some (0, β)) es), [], [(0, β, len', e, n)]))) (hw : Wks args as) (hr : st.rw key = some (b, len, e, n))
    (hK : ∀ β, K (({ st with rw := upd st.rw key (some (β, len', e, n)) } : St).put dst (.c (.sl false n (some (key, β)) es)))) : CallK P false f args st dst K := by
  refine CallK.boxed h [] [key] [key] (fun β => .c (.sl false n (some (key, β)) es)) hw trivial ⟨hr, trivial⟩ (by simp) (by simp) (fun β => Wk.rekey _ _ _ _ _ _) (fun _ => rfl) (by simp) fun β => ?_
  have := hK β
  simp only [St.setBxs, St.clrRws, St.setRws, upd_upd]
  exact this
theorem CallK.row0 {P : Program} {f : FuncId} {args as : List V} {st : St} {dst : Option Tmp} {K : St → Prop} (key : Nat) {e n len' : Nat} {es : List (List C)}
    (h : DoesB P f as [] [] (fun β => (.c (.sl false n (some (0, β)) es), [], [(0, β, len', e, n)]))) (hw : Wks args as)
    (hK : ∀ β, K (({ st with rw := upd st.rw key (some (β, len', e, n)) } : St).put dst (.c (.sl false n (some (key, β)) es)))) : CallK P false f args st dst K := by
  refine CallK.boxed h [] [] [key] (fun β => .c (.sl false n (some (key, β)) es)) hw trivial trivial (by simp) (by simp) (fun β => Wk.rekey _ _ _ _ _ _) (fun _ => rfl) (by simp) fun β => ?_
  have := hK β
  simp only [St.setBxs, St.clrRws, St.setRws]
  exact this

theorem CallK.box1 {P : Program} {f : FuncId} {args as : List V} {st : St} {dst : Option Tmp} {K : St → Prop} {key b : Nat} {cs cs' : List C} {r : V}
    (h : DoesB P f as [(key, b, cs)] [] (fun _ => (r, [(key, b, cs')], []))) (hw : Wks args as) (hb : st.bx key = some (b, cs))
    (hK : K (({ st with bx := upd st.bx key (some (b, cs')) } : St).put dst r)) : CallK P false f args st dst K := by
  refine CallK.boxed h [key] [] [] (fun _ => r) hw ⟨hb, trivial⟩ trivial (by simp) (by simp) (fun _ => Wk.refl _) (fun _ => rfl) (by simp) fun _ => ?_
  simp only [St.setBxs, St.clrRws, St.setRws]
  exact hK
theorem CallK.boxes {P : Program} {f : FuncId} {args as : List V} {st : St} {dst : Option Tmp} {K : St → Prop} {bs bs' : List Bx} {r : V}
    (h : DoesB P f as bs [] (fun _ => (r, bs', []))) (hw : Wks args as) (hb : BxIs st (bs.map (·.1)) bs) (hnd : (bs.map (·.1)).Nodup)
    (hK : K ((st.setBxs (bs.map (·.1)) bs').put dst r)) : CallK P false f args st dst K := by
  refine CallK.boxed h (bs.map (·.1)) [] [] (fun _ => r) hw hb trivial hnd (by simp) (fun _ => Wk.refl _) (fun _ => rfl) (by simp) fun _ => ?_
  simp only [St.clrRws, St.setRws]
  exact hK

/-- A loop that goes round at most n times. -/
def Rounds (P : Program) (E : Env) (c : Code) (Q : Exit → St → Prop) : Nat → St → Prop
  | 0, _ => False
  | n + 1, st => Tri P E c st (thenS (Rounds P E c Q n) Q)
theorem Rounds.step {P : Program} {E : Env} {c : Code} {Q : Exit → St → Prop} {n : Nat} {st : St} (h : Tri P E c st (thenS (Rounds P E c Q n) Q)) : Rounds P E c Q (n + 1) st := h
theorem Tri.rounds {P : Program} {E : Env} {c : Code} {Q : Exit → St → Prop} {st : St} (n : Nat) (h : Rounds P E c Q n st) : Tri P E (.loop c) st Q := by
  refine Tri.loop (fun m s => Rounds P E c Q m s) n h fun m s hm => ?_
  cases m with
  | zero => exact hm.elim
  | succ m =>
    refine Tri.mono hm fun e s' hq => ?_
    cases e with
    | normal => exact ⟨m, by omega, hq⟩
    | _ => exact hq
theorem Tri.block_loop {P : Program} {E : Env} {st : St} {Q : Exit → St → Prop} {id : Nat} {c : Code} (n : Nat) (h : Rounds P E c (blockS id Q) n st) : Tri P E (.block id (.loop c)) st Q := .block (.rounds n h)

theorem Tri.cond_true {P : Program} {E : Env} {st : St} {Q : Exit → St → Prop} {c : Operand} {x y : Code} (hc : st.ev c = .c (.bool true)) (h : Tri P E x st Q) : Tri P E (.cond c x y) st Q := .cond hc (fun _ => h) (fun h => nomatch h)
theorem Tri.cond_false {P : Program} {E : Env} {st : St} {Q : Exit → St → Prop} {c : Operand} {x y : Code} (hc : st.ev c = .c (.bool false)) (h : Tri P E y st Q) : Tri P E (.cond c x y) st Q := .cond hc (fun h => nomatch h) (fun _ => h)

theorem Tri.block_seq {P : Program} {E : Env} {st : St} {Q : Exit → St → Prop} {id : Nat} {x y : Code} (h : Tri P E (.seq x y) st (blockS id Q)) : Tri P E (.block id (.seq x y)) st Q := .block h
theorem Tri.block_region {P : Program} {E : Env} {st : St} {Q : Exit → St → Prop} {id i : Nat} {o : Array Oper} {d : Bool} (h : Tri P E (.region i o d) st (blockS id Q)) : Tri P E (.block id (.region i o d)) st Q := .block h
theorem Tri.block_cond {P : Program} {E : Env} {st : St} {Q : Exit → St → Prop} {id : Nat} {c : Operand} {x y : Code} (h : Tri P E (.cond c x y) st (blockS id Q)) : Tri P E (.block id (.cond c x y)) st Q := .block h

/-- 'for i, x := range xs': 'I k st': what holds when k elements are done. -/
theorem Tri.range {P : Program} {E : Env} {st : St} {Q : Exit → St → Prop} {id0 id1 r1 r2 : Nat} {ops1 ops2 : Array Oper} {body : Code} (ct lt tst inc n : Nat)
    (h1 : items ops1.toList = [⟨none, .binOp .lss 3 (.tmp ct) (.tmp lt) 3, some tst⟩])
    (h2 : items ops2.toList = [⟨none, .binOp .add 3 (.tmp ct) (.const (.int .i64 1)) 3, some inc⟩, ⟨none, .move (.tmp inc), some ct⟩])
    (len : Nat) (I : Nat → St → Prop) (hne : tst ≠ ct ∧ tst ≠ lt ∧ inc ≠ lt ∧ ct ≠ lt ∧ inc ≠ ct ∧ tst < n ∧ inc < n ∧ ct < n) (hlen : len ≤ 4611686018427387904)
    (hI : ∀ k st t v, (t = tst ∨ t = inc ∨ t = ct) → I k st → I k (st.put (some t) v))
    (hn : st.n = n) (hc : st.sl ct = .c (.int .i64 0)) (hl : st.sl lt = .c (.int .i64 len)) (h0 : I 0 st)
    (hb : ∀ k st, k < len → I k st → st.n = n → st.sl ct = .c (.int .i64 k) → st.sl lt = .c (.int .i64 len) →
      Tri P E body st (fun e st' => match e with
        | .normal => I (k + 1) st' ∧ st'.n = n ∧ st'.sl ct = .c (.int .i64 k) ∧ st'.sl lt = .c (.int .i64 len)
        | .exit id => if id = id1 then I (k + 1) st' ∧ st'.n = n ∧ st'.sl ct = .c (.int .i64 k) ∧ st'.sl lt = .c (.int .i64 len) else if id = id0 then Q .normal st' else Q (.exit id) st'
        | e => Q e st'))
    (hend : ∀ st, I len st → st.n = n → Q .normal st) :
    Tri P E (.block id0 (.loop (.seq (.region r1 ops1 false) (.seq (.cond (.tmp tst) .skip (.exit id0)) (.seq (.block id1 body) (.region r2 ops2 false)))))) st Q := by
  obtain ⟨n1, n2, n3, n4, n5, n6, n7, n8⟩ := hne
  refine Tri.block (Tri.loop (fun m st => ∃ k : Nat, m = len - k ∧ k ≤ len ∧ I k st ∧ st.n = n ∧ st.sl ct = .c (.int .i64 k) ∧ st.sl lt = .c (.int .i64 len)) len ⟨0, by omega, by omega, h0, hn, by simpa using hc, hl⟩ ?_)
  rintro m st ⟨k, rfl, hk, hi, hn, hc, hl⟩
  refine Tri.seq fun K1 hK1 => Tri.region ?_
  rw [h1]
  simp [hc, hl, hn, n6]
  apply hK1
  refine Tri.seq fun K2 hK2 => ?_
  refine Tri.cond (t := decide (k < len)) (by simp [upd]) (fun ht => ?_) (fun ht => ?_)
  · have hlt : k < len := by simpa using ht
    refine Tri.skip ?_
    apply hK2
    refine Tri.seq fun K3 hK3 => Tri.block ?_
    have hi' := hI k st tst (.c (.bool (decide (k < len)))) (.inl rfl) hi
    have hb' := hb k _ hlt hi' (by simpa using hn) (by simp [upd, n1.symm, hc]) (by simp [upd, n2.symm, hl])
    rw [show st.put (some tst) (.c (.bool (decide (k < len)))) = { n := n, sl := upd st.sl tst (.c (.bool (decide (k < len)))), bx := st.bx, rw := st.rw } by simp [hn]] at hb'
    refine hb'.mono fun e st' hq => ?_
    have go : I (k + 1) st' ∧ st'.n = n ∧ st'.sl ct = .c (.int .i64 k) ∧ st'.sl lt = .c (.int .i64 len) → K3 st' := by
      rintro ⟨g1, g2, g3, g4⟩
      apply hK3
      refine Tri.region ?_
      rw [h2]
      simp [g3, g2, n7, n8, upd, wrap_succ (show k < 4611686018427387904 by omega)]
      refine ⟨len - (k + 1), by omega, k + 1, rfl, by omega, ?_, by simp, by simp [n4.symm, n3.symm, g4]⟩
      have a1 := hI (k + 1) st' inc (.c (.int .i64 (k + 1))) (.inr (.inl rfl)) g1
      have a2 := hI (k + 1) _ ct (.c (.int .i64 (k + 1))) (.inr (.inr rfl)) a1
      simpa [upd, g2] using a2
    cases e with
    | normal => exact go hq
    | exit id =>
      simp only at hq
      simp only [blockS]
      split
      · rename_i e; rw [if_pos e] at hq; exact go hq
      · rename_i e
        rw [if_neg e] at hq
        simp only [thenS, blockS]
        exact hq
    | _ => exact hq
  · have hkk : k = len := by simp at ht; omega
    subst hkk
    refine Tri.exit ?_
    simp only [thenS, blockS, if_true]
    have hi' := hI k st tst (.c (.bool (decide (k < k)))) (.inl rfl) hi
    have := hend _ hi' (by simpa using hn)
    simpa [hn] using this
end Go.Vm
end
section
namespace Go.Vm

/-! ## A region that draws its order, by an invariant -/
def StepF (P : Program) (dsts : List (Option Tmp)) (o : Oper) (st : St) (K : St → Prop) : Prop :=
  match gate (itOf dsts o).gd st with
  | some true => dstOk st o.dst = true ∧ OpK P false o.op o.dst st K
  | some false => dstOk st o.dst = true ∧ K (st.put o.dst (.c .und))
  | none => False

def anyF (P : Program) (md : Region.Mode) (ops : Array Oper) (K : St → Prop) : Nat → Array Bool → St → Prop
  | 0, listed, st => Region.ready md ops listed = [] ∧ K st
  | fuel + 1, listed, st => (Region.ready md ops listed = [] → K st) ∧ ∀ i ∈ Region.ready md ops listed, ∃ o, ops[i]? = some o ∧ StepF P (ops.toList.map (·.dst)) o st (anyF P md ops K fuel (listed.setIfInBounds i true))

theorem countP_lt {l : List Nat} {p q : Nat → Bool} (h : ∀ x, q x = true → p x = true) {i : Nat} (hi : i ∈ l) (hp : p i = true) (hq : q i = false) : l.countP q < l.countP p := by
  induction l with
  | nil => cases hi
  | cons x l ih =>
    have hle : l.countP q ≤ l.countP p := List.countP_mono_left fun x _ hx => h x hx
    rcases List.mem_cons.1 hi with rfl | hi
    · simp only [List.countP_cons, hp, hq]
      simp
      omega
    · have := ih hi
      simp only [List.countP_cons]
      have : (if q x = true then 1 else 0) ≤ (if p x = true then 1 else 0) := by
        split
        · rename_i e; rw [if_pos (h x e)]; exact Nat.le_refl _
        · omega
      omega

section
variable {E : Env} {F F' : Nat → Nat → Prop} {st : St} {a : Act} {w w' : World} {P : Program} {md : Region.Mode} {ops : Array Oper}

theorem any_soundF {K : St → Prop} {Q : Exit → Act → World → Prop} (hQ : ∀ F' a' w' st', Rel E F' st' a' w' → K st' → Q .normal a' w') :
    ∀ (fuel : Nat) (listed : Array Bool) (F : Nat → Nat → Prop) (st : St) (a : Act) (w : World), Rel E F st a w → anyF P md ops K fuel listed st → wpAny P md ops Q fuel listed a w := by
  intro fuel
  induction fuel with
  | zero => intro listed F st a w hr h; exact ⟨h.1, hQ F a w st hr h.2⟩
  | succ fuel ih =>
    intro listed F st a w hr h
    refine ⟨fun h0 => hQ F a w st hr (h.1 h0), fun i hi => ?_⟩
    obtain ⟨o, ho, hs⟩ := h.2 i hi
    unfold wpOp
    simp only [ho]
    unfold StepF at hs
    split at hs
    · rename_i hg
      rw [if_pos (gate_sound hr hg)]
      exact .inl (OpK_sound hr (o := o) hs.1 hs.2 _ Q fun F' a' w' st' h' hk' => ih _ F' st' a' w' h' hk')
    · rename_i hg
      rw [if_neg (by rw [gate_sound hr hg]; simp)]
      exact ih _ F _ _ w (hr.put (dst := o.dst) (v := undef) (x := .c .und) (.c .und) hs.1) hs.2
    · exact hs.elim

theorem StepF_mono {dsts : List (Option Tmp)} {o : Oper} {K K' : St → Prop} (h : ∀ st, K st → K' st) (hk : StepF P dsts o st K) : StepF P dsts o st K' := by
  unfold StepF at hk ⊢
  split
  · rename_i hg; rw [hg] at hk; exact ⟨hk.1, OpK_mono h hk.2⟩
  · rename_i hg; rw [hg] at hk; exact ⟨hk.1, h _ hk.2⟩
  · rename_i hg; rw [hg] at hk; exact hk

theorem ready_nil (hback : ∀ (i : Nat) (o : Oper), ops[i]? = some o → ∀ e ∈ o.after, e.on < i) {listed : Array Bool} (hl : listed.size = ops.size) (hr : Region.ready md ops listed = []) :
    ∀ i, i < ops.size → listed.getD i false = true := by
  intro i
  induction i using Nat.strongRecOn with
  | _ i ih =>
    intro hi
    cases hg : listed.getD i false with
    | true => rfl
    | false =>
      exfalso
      have : i ∈ Region.ready md ops listed := mem_ready.2 ⟨by
        simp only [Array.getD_eq_getD_getElem?] at hg ⊢
        rw [Array.getElem?_eq_getElem (by omega)] at hg ⊢
        simpa using hg, ops[i], Array.getElem?_eq_getElem hi, fun e he _ => by
        have hlt := hback i _ (Array.getElem?_eq_getElem hi) e he
        exact ih e.on hlt (by omega)⟩
      rw [hr] at this
      cases this

theorem anyF_inv {K : St → Prop} (J : (Nat → Bool) → St → Prop) (hback : ∀ (i : Nat) (o : Oper), ops[i]? = some o → ∀ e ∈ o.after, e.on < i)
    (hstep : ∀ (L : Nat → Bool) st i o, J L st → ops[i]? = some o → L i = false → (∀ e ∈ o.after, Region.binds md e = true → L e.on = true) → StepF P (ops.toList.map (·.dst)) o st (J (fun j => L j || j == i)))
    (hend : ∀ L st, (∀ i, i < ops.size → L i = true) → J L st → K st) :
    ∀ (fuel : Nat) (listed : Array Bool) (st : St), listed.size = ops.size → (List.range ops.size).countP (fun j => !listed.getD j false) ≤ fuel → J (fun j => listed.getD j false) st → anyF P md ops K fuel listed st := by
  intro fuel
  induction fuel with
  | zero =>
    intro listed st hl hc hJ
    have hall : ∀ i, i < ops.size → listed.getD i false = true := fun i hi => by
      have h0 : (List.range ops.size).countP (fun j => !listed.getD j false) = 0 := by omega
      have := List.countP_eq_zero.1 h0 i (List.mem_range.2 hi)
      simpa using this
    refine ⟨?_, hend _ st hall hJ⟩
    rw [List.eq_nil_iff_forall_not_mem]
    intro j hj
    obtain ⟨h0, o, ho, _⟩ := mem_ready.1 hj
    have hlt := (Array.getElem?_eq_some_iff.1 ho).1
    have := hall j hlt
    rw [Array.getD_eq_getD_getElem?] at this h0
    rw [Array.getElem?_eq_getElem (by omega)] at this h0
    simp at this h0
    rw [this] at h0
    cases h0
  | succ fuel ih =>
    intro listed st hl hc hJ
    refine ⟨fun hr => hend _ st (ready_nil hback hl hr) hJ, fun i hi => ?_⟩
    obtain ⟨h0, o, ho, hall⟩ := mem_ready.1 hi
    have hlt := (Array.getElem?_eq_some_iff.1 ho).1
    have hLi : listed.getD i false = false := by
      rw [Array.getD_eq_getD_getElem?] at h0 ⊢
      rw [Array.getElem?_eq_getElem (by omega)] at h0 ⊢
      simpa using h0
    refine ⟨o, ho, StepF_mono (fun st' hst' => ?_) (hstep _ st i o hJ ho hLi fun e he hb => hall e he hb)⟩
    have hf : (fun j => (listed.setIfInBounds i true).getD j false) = fun j => listed.getD j false || j == i := by
      funext j
      simp only [Array.getD_eq_getD_getElem?, Array.getElem?_setIfInBounds]
      by_cases e : i = j
      · subst e; simp [hl, hlt]
      · have : ¬ j = i := fun e' => e e'.symm
        simp [e, this]
    refine ih _ st' (by simpa using hl) ?_ (by rw [hf]; exact hst')
    have := countP_lt (l := List.range ops.size) (p := fun j => !listed.getD j false) (q := fun j => !(listed.setIfInBounds i true).getD j false) (fun x hx => by
      have e : (listed.setIfInBounds i true).getD x false = (listed.getD x false || x == i) := congrFun hf x
      rw [e] at hx
      simp at hx
      simpa using hx.1) (List.mem_range.2 hlt) (by simp [hLi]) (by
      have e : (listed.setIfInBounds i true).getD i false = (listed.getD i false || i == i) := congrFun hf i
      rw [e]; simp)
    omega

def backOk (ops : Array Oper) : Bool := (List.range ops.size).all fun i => match ops[i]? with
  | some o => o.after.all fun e => decide (e.on < i)
  | none => true
theorem Tri.drawInv {id : Nat} {Q : Exit → St → Prop} (hm : P.follows .mixedOrders = true) (J : (Nat → Bool) → St → Prop) (hback : backOk ops = true) (h0 : J (fun _ => false) st)
    (hstep : ∀ (L : Nat → Bool) st i o, J L st → ops[i]? = some o → L i = false → (∀ e ∈ o.after, Region.binds .any e = true → L e.on = true) → StepF P (ops.toList.map (·.dst)) o st (J (fun j => L j || j == i)))
    (hend : ∀ L st, (∀ i, i < ops.size → L i = true) → J L st → Q .normal st) : Tri P E (.region id ops true) st Q := by
  intro F a w hr
  refine wp_region_any hm (any_soundF (E := E) (fun F' a' w' st' h1 h2 => ⟨F', st', h1, h2⟩) ops.size _ F st a _ hr.drewDrawn ?_)
  refine anyF_inv J (fun i o ho e he => ?_) hstep hend ops.size _ st (by simp) (by simpa using List.countP_le_length (l := List.range ops.size)) ?_
  · have := List.all_eq_true.1 hback i (List.mem_range.2 (Array.getElem?_eq_some_iff.1 ho).1)
    simp only [ho] at this
    have := Array.all_eq_true_iff_forall_mem.1 this e he
    simpa using this
  · have : (fun j => (Array.replicate ops.size false).getD j false) = fun _ => false := by
      funext j
      simp only [Array.getD_eq_getD_getElem?, Array.getElem?_replicate]
      split <;> rfl
    rw [this]
    exact h0

/-! ## A step of the proof alone -/
theorem Tri.recast {c : Code} {Q : Exit → St → Prop} {st' : St} (h : ∀ F a w, Rel E F st a w → ∃ F', Rel E F' st' a w) (hK : Tri P E c st' Q) : Tri P E c st Q := by
  intro F a w hr
  obtain ⟨F', hr'⟩ := h F a w hr
  exact hK F' a w hr'

/-! ## What a function's body leaves, in general -/
theorem calls_of_tri {f : FuncId} {fn : Func} {c : Code} {args : List V} {n : Nat} {rs : List ResultVar} {R : V → St → Prop} (hf : P.funcs[f]? = some fn) (hb : fn.body = some c) (hn : fn.ntmps = n)
    (hrs : fn.results.toList = rs) (hl : args.length ≤ n) (h : ∀ E, Tri P E c (st0 n args) (fun e st => (e = .normal ∨ e = .ret) ∧ ∃ v, resV P st rs = some v ∧ R v st))
    (F : Nat → Nat → Prop) (w : World) (vs : List Value) (hvs : VRs F w vs args) (hF : ∀ b o, F b o → b < w.heap.size) :
    Calls P f vs.toArray w fun e w' => ∃ u F' st a E v, e = .returned u ∧ Rel E F' st a w' ∧ E.w0 = w ∧ E.F0 = F ∧ (∀ b, ¬ E.pb b) ∧ VR F' w' u v ∧ R v st := by
  subst hn hrs
  let E : Env := { w0 := w, F0 := F, pb := fun _ => False }
  have hrel : Rel E F (st0 fn.ntmps args) { tmps := vs.toArray ++ Array.replicate (fn.ntmps - vs.toArray.size) undef, defers := [] } w :=
    { defers := rfl
      size := by simp [st0, hvs.1]; omega
      os := rfl
      tape := rfl
      output := rfl
      hsz := Nat.le_refl _
      old := fun _ _ _ => rfl
      stp := .refl _ _
      f0 := fun _ _ x => x
      fn := fun _ _ x => .inl x
      fs := hF
      slots := fun t => by
        simp only [st0, Array.getD_eq_getD_getElem?]
        by_cases ht : t < args.length
        · have := hvs.2 t ht
          rw [Array.getElem?_append_left (by simp [hvs.1]; exact ht)]
          rw [getD_eq, getD_eq, List.getElem?_eq_getElem ht] at this
          rw [List.getElem?_eq_getElem ht]
          simpa using this
        · rw [List.getElem?_eq_none (by omega), Array.getElem?_append_right (by simp [hvs.1]; omega), Array.getElem?_replicate]
          split <;> exact .c .und
      boxes := fun _ _ _ x => by cases x
      boxd := fun _ _ _ _ _ x => by cases x
      rows := fun _ _ _ _ _ x => by cases x
      rowd := fun _ _ _ _ _ _ _ _ _ x => by cases x
      boxrow := fun _ _ _ _ _ _ _ x => by cases x }
  refine calls_of_wp hf hb (wp_mono (h E F _ w hrel) ?_)
  rintro e a' w' ⟨F', st', h1, he, v, hv, hR⟩
  have fin : a'.defers = [] ∧ ∃ v, (results fn a'.tmps).run P w' = .ok v w' ∧ ∃ u F' st a E v_1, Ending.returned v = .returned u ∧ Rel E F' st a w' ∧ E.w0 = w ∧ E.F0 = F ∧ (∀ b, ¬ E.pb b) ∧ VR F' w' u v_1 ∧ R v_1 st := by
    obtain ⟨u, g1, g2⟩ := results_sound h1 hv
    exact ⟨h1.defers, u, g1, u, F', st', a', E, v, rfl, h1, rfl, rfl, fun b x => x, g2, hR⟩
  rcases he with rfl | rfl
  · exact fin
  · exact fin

/-- A body that returns new objects. -/
def VEndsR (P : Program) (rs : List ResultVar) (out : (Nat → Nat) → V × List (List C)) : Exit → St → Prop := fun e st =>
  (e = .normal ∨ e = .ret) ∧ ∃ v, resV P st rs = some v ∧ ∃ (β : Nat → Nat) (ks : List Nat), Wk v (out β).1 ∧ (∀ (i : Nat) (cs : List C), (out β).2[i]? = some cs → ∃ k, ks[i]? = some k ∧ st.bx k = some (β i, cs)) ∧ ks.Nodup

theorem DoesR.of_body {f : FuncId} {fn : Func} {c : Code} {args : List V} {out : (Nat → Nat) → V × List (List C)} {n : Nat} {rs : List ResultVar} (hf : P.funcs[f]? = some fn) (hb : fn.body = some c) (hg : goFn P f = true) (hn : fn.ntmps = n)
    (hrs : fn.results.toList = rs) (hl : args.length ≤ n) (h : ∀ E, Tri P E c (st0 n args) (VEndsR P rs out)) : DoesR P f args out := by
  refine ⟨hg, fun F w vs hvs hF => ?_⟩
  refine (calls_of_tri (R := fun v st => ∃ (β : Nat → Nat) (ks : List Nat), Wk v (out β).1 ∧ (∀ (i : Nat) (cs : List C), (out β).2[i]? = some cs → ∃ k, ks[i]? = some k ∧ st.bx k = some (β i, cs)) ∧ ks.Nodup) hf hb hn hrs hl h F w vs hvs hF).mono fun e w' hpost => ?_
  obtain ⟨u, F', st', a', E, v, rfl, h1, hw0, hF0, hpb, hv, β, ks, hwk, hks, hnd⟩ := hpost
  subst hw0 hF0
  refine ⟨u, F', β, rfl, hwk _ _ _ hv, ⟨h1.os, h1.tape, h1.output, h1.hsz, fun k hk => h1.old k hk (hpb k), h1.f0, fun b o hb => (h1.fn b o hb).elim .inl fun x => .inr (x.elim id fun y => (hpb b y).elim), h1.fs⟩, fun i cs hi => ?_, fun i j hi hj he => ?_⟩
  · obtain ⟨k, _, hk⟩ := hks i cs hi
    obtain ⟨q1, q2, q3⟩ := h1.boxes _ _ _ hk
    exact ⟨q2.elim id fun x => (hpb _ x).elim, q1, q3⟩
  · obtain ⟨k, g1, g2⟩ := hks i _ (List.getElem?_eq_getElem hi)
    obtain ⟨k', g3, g4⟩ := hks j _ (List.getElem?_eq_getElem hj)
    have hkk : k = k' := h1.boxd k k' (β i) _ _ g2 (by rw [he]; exact g4)
    subst hkk
    exact (List.getElem?_inj (List.getElem?_eq_some_iff.1 g1).1 hnd).1 (by rw [g1, g3])

/-! ## A row that is returned can be written by the caller -/
def C.flat : C → Bool
  | .int .. => true
  | .bool _ => true
  | _ => false
theorem CR.flat {v : Value} {c : C} (h : CR F w v c) (hc : c.flat = true) {F' : Nat → Nat → Prop} {w' : World} : CR F' w' v c := by
  cases h <;> first | exact .int _ _ | exact .bool _ | simp [C.flat] at hc
theorem CR.ofFlat {v : Value} {c : C} (h : CR F w v c) (hc : c.flat = true) (F' : Nat → Nat → Prop) (w' : World) : CR F' w' v c := h.flat hc

theorem DoesR.of_thaw {f : FuncId} {fn : Func} {c : Code} {args : List V} {n m : Nat} {es : List (List C)} {rs : List ResultVar} (hf : P.funcs[f]? = some fn) (hb : fn.body = some c) (hg : goFn P f = true) (hn : fn.ntmps = n)
    (hrs : fn.results.toList = rs) (hl : args.length ≤ n) (hflat : es.flatten.all C.flat = true) (hu : ∀ e ∈ es, e.length = m)
    (h : ∀ E, Tri P E c (st0 n args) (fun e st => (e = .normal ∨ e = .ret) ∧ ∃ v, resV P st rs = some v ∧ ∃ key b T, v = .c (.sl false m (some (key, b)) es) ∧ st.rw key = some (b, es.length, T, m))) :
    DoesR P f args fun β => (.c (.ms m 0 (β 0) 0 es.length), [es.flatten]) := by
  refine ⟨hg, fun F w vs hvs hF => ?_⟩
  refine (calls_of_tri (R := fun v st => ∃ key b T, v = .c (.sl false m (some (key, b)) es) ∧ st.rw key = some (b, es.length, T, m)) hf hb hn hrs hl h F w vs hvs hF).mono fun e w' hpost => ?_
  obtain ⟨u, F', st', a', E, v, rfl, h1, hw0, hF0, hpb, hv, key, b, T, rfl, hrow⟩ := hpost
  subst hw0 hF0
  obtain ⟨cells, cap, q1, q2, q3, q4, q5, q6⟩ := h1.rows _ _ _ _ _ hrow
  have hge : E.w0.heap.size ≤ b := q5.elim id fun x => (hpb _ x).elim
  have hfl := length_flatten_uniform es hu
  have hv := hv.inv
  cases hv with
  | sl b0 off cap0 _ _ _ cells0 hle hn0 hlen hF' hcl h1c hr ho =>
  obtain ⟨rfl, rfl, _⟩ := ho key b rfl
  refine ⟨_, E.F0, fun _ => b, rfl, .c (.ms b 0 cap0 m 0 0 es.length hle (.inr (by simp))), ⟨h1.os, h1.tape, h1.output, h1.hsz, fun k hk => h1.old k hk (hpb k), fun _ _ x => x, fun _ _ x => .inl x, fun b o x => Nat.lt_of_lt_of_le (hF b o x) h1.hsz⟩, fun i cs hi => ?_, fun i j hi hj _ => by simp at hi hj; omega⟩
  match i, hi with
  | 0, hi =>
    simp only [List.getElem?_cons_zero, Option.some.injEq] at hi
    subst hi
    refine ⟨hge, .cells _ cells T q1 (by rw [hfl, q2]; exact Nat.mul_le_mul_right _ q3) fun k hk => ?_, fun o ho => by have := hF b o ho; omega⟩
    have hkc : k < cells0.length := by rw [hlen, ← hfl]; exact hk
    have e1 := hcl k hkc
    rw [Nat.zero_add, cell_of_row w' b k cells T (0, 0) q1] at e1
    have e2 := hr k hkc
    rw [getD_eq, ← e1, ← Array.getD_eq_getD_getElem?] at e2
    refine e2.flat ?_
    rw [getD_eq, List.getElem?_eq_getElem hk]
    exact List.all_eq_true.1 hflat _ (List.getElem_mem hk)
  | i + 1, hi => simp at hi
end
end Go.Vm
end
section
namespace Go.Vm
section
variable {E : Env} {F F' : Nat → Nat → Prop} {st : St} {a : Act} {w w' : World} {P : Program}

/-- What a box holds is read in another way. -/
theorem Rel.rebox (h : Rel E F st a w) {k b : Nat} {cs cs' : List C} (hb : st.bx k = some (b, cs)) (ho : isObj cs = false) (hl : cs'.length = cs.length)
    (hr : ∀ j v, j < cs.length → CR F w v (cs.getD j .any) → CR F w v (cs'.getD j .any)) : Rel E F { st with bx := upd st.bx k (some (b, cs')) } a w := by
  obtain ⟨q1, q2, q3⟩ := h.boxes _ _ _ hb
  obtain ⟨cells, T, g1, g2, g3⟩ := q1.plain ho
  exact
  { h with
    boxes := fun k' b' cs1 hk => by
      simp only [upd] at hk
      split at hk
      · cases hk; exact ⟨.cells _ cells T g1 (by omega) fun j hj => hr j _ (by omega) (g3 j (by omega)), q2, q3⟩
      · exact h.boxes k' b' cs1 hk
    boxd := fun k1 k2 b' cs1 cs2 h1 h2 => by
      simp only [upd] at h1 h2
      split at h1 <;> split at h2
      · subst_vars; rfl
      · cases h1; rename_i e1 _; subst e1; exact h.boxd _ _ _ _ _ hb h2
      · cases h2; rename_i e2; subst e2; exact h.boxd _ _ _ _ _ h1 hb
      · exact h.boxd k1 k2 b' cs1 cs2 h1 h2
    boxrow := fun k1 k2 b' cs1 l e n h1 h2 => by
      simp only [upd] at h1
      split at h1
      · cases h1; exact h.boxrow _ _ _ _ _ _ _ hb h2
      · exact h.boxrow k1 k2 b' cs1 l e n h1 h2 }

/-- A box is not written any more: slices over it are data. -/
theorem Rel.freeze (h : Rel E F st a w) {k b n : Nat} {cs rest : List C} {es : List (List C)} (hb : st.bx k = some (b, cs)) (ho : isObj cs = false) (hn : ∀ e ∈ es, e.length = n) (hcs : cs = es.flatten ++ rest)
    (hfl : es.flatten.all C.flat = true) : ∃ F', Rel E F' { st with bx := upd st.bx k none } a w ∧ ∀ v key, CR F' w v (.ms n key b 0 es.length) → CR F' w v (.sl false n none es) := by
  obtain ⟨q1, q2, q3⟩ := h.boxes _ _ _ hb
  obtain ⟨cells, T, g1, g2, g3⟩ := q1.plain ho
  have hlt := heap_lt g1
  have hfn := length_flatten_uniform es hn
  have hlen : es.flatten.length ≤ cells.size := by rw [hcs] at g2; simp only [List.length_append] at g2; omega
  let F' : Nat → Nat → Prop := fun b' o => F b' o ∨ (b' = b ∧ o < es.flatten.length)
  have hFF : ∀ b o, F b o → F' b o := fun _ _ x => .inl x
  have hs : Stp F w w := .refl _ _
  have hbne : ∀ k' b' cs', st.bx k' = some (b', cs') → k' ≠ k → b' ≠ b := fun k' b' cs' hk hne e => hne (h.boxd k' k b' cs' cs hk (e ▸ hb))
  have hrne : ∀ k' b' l e n, st.rw k' = some (b', l, e, n) → b' ≠ b := fun k' b' l e n hk e' => h.boxrow k k' b cs l e n hb (e' ▸ hk)
  refine ⟨F', ?_, fun v key hv => ?_⟩
  · exact
    { defers := h.defers
      size := h.size
      os := h.os
      tape := h.tape
      output := h.output
      hsz := h.hsz
      old := h.old
      stp := h.stp
      f0 := fun b o x => .inl (h.f0 b o x)
      fn := fun b' o x => by
        rcases x with x | ⟨rfl, _⟩
        · exact h.fn b' o x
        · exact .inr q2
      fs := fun b' o x => by
        rcases x with x | ⟨rfl, _⟩
        · exact h.fs b' o x
        · exact hlt
      slots := fun t => (h.slots t).mono hs hFF
      boxes := fun k' b' cs' hk => by
        simp only [upd] at hk
        split at hk
        · cases hk
        · rename_i hne
          obtain ⟨p1, p2, p3⟩ := h.boxes _ _ _ hk
          exact ⟨p1.mono rfl hs hFF, p2, fun o x => x.elim (p3 o) fun y => hbne _ _ _ hk hne y.1⟩
      boxd := fun k1 k2 b' cs1 cs2 h1 h2 => by
        simp only [upd] at h1 h2
        split at h1
        · cases h1
        · split at h2
          · cases h2
          · exact h.boxd k1 k2 b' cs1 cs2 h1 h2
      rows := fun k' b' len e n' hk => by
        obtain ⟨c1, cap, p1, p2, p3, p4, p5, p6⟩ := h.rows _ _ _ _ _ hk
        exact ⟨c1, cap, p1, p2, p3, p4, p5, fun o x => x.elim (p6 o) fun y => absurd y.1 (hrne _ _ _ _ _ hk)⟩
      rowd := h.rowd
      boxrow := fun k1 k2 b' cs1 l e n h1 h2 => by
        simp only [upd] at h1
        split at h1
        · cases h1
        · exact h.boxrow k1 k2 b' cs1 l e n h1 h2 }
  · cases hv with
    | ms _ o cap _ _ _ _ hle hoo =>
    have hget : ∀ j, j < es.flatten.length → (cells.toList.take es.flatten.length)[j]? = cells[j]? := fun j hj => by rw [List.getElem?_take, if_pos hj, Array.getElem?_toList]
    have htl : (cells.toList.take es.flatten.length).length = es.flatten.length := by rw [List.length_take, Array.length_toList]; exact Nat.min_eq_left hlen
    have o0 : ∀ j, j < es.flatten.length → o + j = j := fun j hj => by
      rcases hoo with e | e
      · rw [hfn, e] at hj; simp at hj
      · rw [e]; simp
    refine .sl b o cap n none es (cells.toList.take es.flatten.length) hle hn (by rw [htl, hfn]) (fun j hj => ?_) (fun j hj => ?_) (fun v hv => ?_) (fun j hj => ?_) (by simp)
    · rw [htl] at hj
      exact .inr ⟨rfl, by rw [o0 j hj]; exact hj⟩
    · rw [htl] at hj
      rw [o0 j hj, cell_of_row w b j cells T (0, 0) g1, hget j hj]
    · obtain ⟨j, hj, rfl⟩ := List.getElem_of_mem hv
      rw [htl] at hj
      have hjc : j < cs.length := by rw [hcs, List.length_append]; omega
      have hc := g3 j hjc
      have e1 : cs.getD j .any = es.flatten.getD j .any := by rw [hcs, getD_eq, getD_eq, List.getElem?_append_left hj]
      rw [e1] at hc
      have hk : (es.flatten.getD j .any).flat = true := by rw [getD_eq, List.getElem?_eq_getElem hj]; exact List.all_eq_true.1 hfl _ (List.getElem_mem hj)
      have e2 : (cells.toList.take es.flatten.length)[j]'(by rw [htl]; exact hj) = cells.getD j undef := by
        have := hget j hj
        rw [List.getElem?_eq_getElem (by rw [htl]; exact hj)] at this
        rw [Array.getD_eq_getD_getElem?, ← this]; rfl
      rw [e2]
      refine hc.oneCell ?_
      cases hx : es.flatten.getD j .any <;> rw [hx] at hk <;> first | rfl | cases hk
    · rw [htl] at hj
      have hjc : j < cs.length := by rw [hcs, List.length_append]; omega
      have hc := g3 j hjc
      have e1 : cs.getD j .any = es.flatten.getD j .any := by rw [hcs, getD_eq, getD_eq, List.getElem?_append_left hj]
      rw [e1] at hc
      have e2 : (cells.toList.take es.flatten.length).getD j undef = cells.getD j undef := by rw [getD_eq, hget j hj, Array.getD_eq_getD_getElem?]
      rw [e2]
      exact hc.mono hs hFF

/-- A box is frozen; a cell of another box is a slice over it. -/
theorem Tri.freeze {c : Code} {Q : Exit → St → Prop} {k b n k' b' key i : Nat} {cs rest cs1 : List C} {es : List (List C)} (hb : st.bx k = some (b, cs)) (ho : isObj cs = false) (hn : ∀ e ∈ es, e.length = n) (hcs : cs = es.flatten ++ rest)
    (hfl : es.flatten.all C.flat = true) (hkk : k' ≠ k) (hb' : st.bx k' = some (b', cs1)) (ho' : isObj cs1 = false) (hi : cs1[i]? = some (.ms n key b 0 es.length))
    (hK : Tri P E c { st with bx := upd (upd st.bx k none) k' (some (b', cs1.set i (.sl false n none es))) } Q) : Tri P E c st Q := by
  refine Tri.recast (fun F a w hr => ?_) hK
  obtain ⟨F', h1, h2⟩ := hr.freeze hb ho hn hcs hfl
  refine ⟨F', ?_⟩
  have hb2 : ({ st with bx := upd st.bx k none } : St).bx k' = some (b', cs1) := by simp [upd, hkk, hb']
  refine h1.rebox hb2 ho' (by simp) fun j v hj hc => ?_
  by_cases e : i = j
  · subst e
    rw [getD_eq, hi] at hc
    rw [getD_eq, List.getElem?_set_self hj]
    exact h2 v key hc
  · rw [getD_eq, List.getElem?_set_ne e, ← getD_eq]
    exact hc
end
attribute [simp] clrV St.newBxs
@[simp] theorem isObj_nil : isObj [] = false := rfl
@[simp] theorem isObj_one (x : C) : isObj [x] = x.isO := rfl
@[simp] theorem isObj_two (x y : C) (l : List C) : isObj (x :: y :: l) = false := rfl
@[simp] theorem isO_any : C.isO .any = false := rfl
@[simp] theorem isO_und : C.isO .und = false := rfl
@[simp] theorem isO_int (k : IntKind) (n : Int) : C.isO (.int k n) = false := rfl
@[simp] theorem isO_bool (b : Bool) : C.isO (.bool b) = false := rfl
@[simp] theorem isO_str (b : ByteArray) : C.isO (.str b) = false := rfl
@[simp] theorem isO_sl (nl : Bool) (n : Nat) (o : Option (Nat × Nat)) (es : List (List C)) : C.isO (.sl nl n o es) = false := rfl
@[simp] theorem isO_box (k b o : Nat) : C.isO (.box k b o) = false := rfl
@[simp] theorem isO_el (n : Nat) (es : List (List C)) (i o : Nat) : C.isO (.el n es i o) = false := rfl
@[simp] theorem isO_nilp : C.isO .nilp = false := rfl
@[simp] theorem isO_fn (f : FuncId) (l : List C) : C.isO (.fn f l) = false := rfl
@[simp] theorem isO_nilf : C.isO .nilf = false := rfl
@[simp] theorem isO_room (n k b : Nat) : C.isO (.room n k b) = false := rfl
@[simp] theorem isO_map (k b : Nat) : C.isO (.map k b) = false := rfl
@[simp] theorem isO_mapn : C.isO .mapn = false := rfl
@[simp] theorem isO_mapc (a : Bool) (n : Nat) (c : Bool) (l : List (List C)) : C.isO (.mapc a n c l) = true := rfl
@[simp] theorem isO_iter (a b n : Nat) (l : List Nat) : C.isO (.iter a b n l) = true := rfl
@[simp] theorem isO_ms (n k b i l : Nat) : C.isO (.ms n k b i l) = false := rfl
@[simp] theorem OpK_clear (P : Program) (d : Bool) (args : Array Operand) (ats : Array TypeId) (dst : Option Tmp) (st : St) (K : St → Prop) : OpK P d (.call { callee := .builtin .clear, args := args, argTypes := ats }) dst st K = optK (evEff P (.call { callee := .builtin .clear, args := args, argTypes := ats }) dst st 0) dst K := by
  rw [OpK_op dst st K rfl]
  exact propext ⟨fun h => h 0, fun h _ => h⟩
/-- Two boxes are handed on, and come back as they were. -/
theorem CallK.look2 {P : Program} {f : FuncId} {args av : List V} {st : St} {dst : Option Tmp} {K : St → Prop} {key b key' b' : Nat} {cs cs' : List C} {r : V} (k k' : Nat)
    (h : DoesB P f av [(key, b, cs), (key', b', cs')] [] (fun _ => (r, [(key, b, cs), (key', b', cs')], []))) (hw : Wks args av) (hb : st.bx k = some (b, cs)) (hb' : st.bx k' = some (b', cs')) (hne : k ≠ k') (hK : K (st.put dst r)) : CallK P false f args st dst K := by
  refine CallK.boxed h [k, k'] [] [] (fun _ => r) hw ⟨hb, hb', trivial⟩ trivial (by simp [hne]) (by simp) (fun _ => Wk.refl _) (fun _ => rfl) (by simp) fun _ => ?_
  have e1 : upd st.bx k' (some (b', cs')) = st.bx := upd_same _ _ _ hb'
  have e2 : upd st.bx k (some (b, cs)) = st.bx := upd_same _ _ _ hb
  simp only [St.setBxs, St.clrRws, St.setRws, e1, e2]
  exact hK
end Go.Vm
namespace Go.Vm
section
variable {E : Env} {F F' : Nat → Nat → Prop} {st : St} {a : Act} {w w' : World} {P : Program}
def afterOk (o : Oper) (L : Nat → Bool) : Bool := o.after.toList.all fun e => !Region.binds .any e || L e.on
/-- Each operation of the region may be the next, once what it hangs on is done. -/
def DrawAll (P : Program) (dsts : List (Option Tmp)) (L : Nat → Bool) (st : St) (J : (Nat → Bool) → St → Prop) : List Oper → Nat → Prop
  | [], _ => True
  | o :: r, i => (L i = false → afterOk o L = true → StepF P dsts o st (J (fun j => L j || j == i))) ∧ DrawAll P dsts L st J r (i + 1)
theorem StepF_eq {P : Program} {dsts : List (Option Tmp)} {o : Oper} {st : St} {K : St → Prop} : StepF P dsts o st K = gateK P false (gate (itOf dsts o).gd st) o.op o.dst st K := by
  unfold StepF gateK
  cases gate (itOf dsts o).gd st with
  | none => rfl
  | some b => cases b <;> rfl
theorem DrawAll.at {P : Program} {dsts : List (Option Tmp)} {L : Nat → Bool} {st : St} {J : (Nat → Bool) → St → Prop} : ∀ (l : List Oper) (i : Nat), DrawAll P dsts L st J l i → ∀ (k : Nat) (o : Oper), l[k]? = some o → L (i + k) = false → afterOk o L = true → StepF P dsts o st (J (fun j => L j || j == i + k))
  | [], _, _, _, _, h => by simp at h
  | o :: r, i, h, 0, o', ho => by
    simp only [List.getElem?_cons_zero, Option.some.injEq] at ho
    subst ho
    exact h.1
  | o :: r, i, h, k + 1, o', ho => by
    have := DrawAll.at r (i + 1) h.2 k o' (by simpa using ho)
    rw [show i + 1 + k = i + (k + 1) by omega] at this
    exact this
theorem Tri.drawAll {id : Nat} {ops : Array Oper} {Q : Exit → St → Prop} (hm : P.follows .mixedOrders = true) (J : (Nat → Bool) → St → Prop) (hback : backOk ops = true) (h0 : J (fun _ => false) st)
    (hstep : ∀ L st, J L st → DrawAll P (ops.toList.map (·.dst)) L st J ops.toList 0) (hend : ∀ L st, (∀ i, i < ops.size → L i = true) → J L st → Q .normal st) : Tri P E (.region id ops true) st Q := by
  refine Tri.drawInv hm J hback h0 (fun L st i o hJ ho hL ha => ?_) hend
  have := (hstep L st hJ).at _ _ i o (by simpa using ho) (by simpa using hL) (by
    unfold afterOk
    rw [List.all_eq_true]
    intro e he
    cases hb : Region.binds .any e with
    | false => rfl
    | true => simpa using ha e (by simpa using he) hb)
  simpa using this
end
end Go.Vm
namespace Go.Vm
theorem Tri.atR {P : Program} {E : Env} (n : Nat) {ops : Array Oper} {d : Bool} {y : Code} {st : St} {Q : Exit → St → Prop} (h : Tri P E (.seq (.region n ops d) y) st Q) : Tri P E (.seq (.region n ops d) y) st Q := h
end Go.Vm
end
section
namespace Go.Vm
/-- A call that is handed a box, under another key, and leaves it as it is. -/
theorem CallK.look {P : Program} {f : FuncId} {args av : List V} {st : St} {dst : Option Tmp} {K : St → Prop} {key b : Nat} {cs : List C} {r : V} (k : Nat)
    (h : DoesB P f av [(key, b, cs)] [] (fun _ => (r, [(key, b, cs)], []))) (hw : Wks args av) (hb : st.bx k = some (b, cs)) (hK : K (st.put dst r)) : CallK P false f args st dst K := by
  refine CallK.boxed h [k] [] [] (fun _ => r) hw ⟨hb, trivial⟩ trivial (by simp) (by simp) (fun _ => Wk.refl _) (fun _ => rfl) (by simp) fun _ => ?_
  simp only [St.setBxs, St.clrRws, St.setRws]
  rw [upd_same _ _ _ hb]
  exact hK
/-- Where a list first has what is looked for; -1 if nowhere. -/
def idxI {α : Type} (p : α → Bool) (l : List α) : Int := match l.findIdx? p with
  | some i => (i : Nat)
  | none => -1
theorem idxI_at {α : Type} {p : α → Bool} {l : List α} {k : Nat} (hk : k < l.length) (h : p l[k] = true) (hb : ∀ j (_ : j < l.length), j < k → p l[j] = false) : idxI p l = (k : Nat) := by
  have : l.findIdx? p = some k := List.findIdx?_eq_some_iff_getElem.2 ⟨hk, h, fun j hj => by simp [hb j (by omega) hj]⟩
  simp [idxI, this]
theorem idxI_none {α : Type} {p : α → Bool} {l : List α} (hb : ∀ j (_ : j < l.length), p l[j] = false) : idxI p l = -1 := by
  have : l.findIdx? p = none := List.findIdx?_eq_none_iff.2 fun x hx => by
    obtain ⟨j, hj, rfl⟩ := List.getElem_of_mem hx
    exact hb j hj
  simp [idxI, this]
theorem idxI_any {α : Type} (p : α → Bool) (l : List α) : decide (0 ≤ idxI p l) = l.any p := by
  unfold idxI
  cases h : l.findIdx? p with
  | none =>
    have := List.findIdx?_eq_none_iff.1 h
    have e : l.any p = false := by
      rw [List.any_eq_false]
      intro x hx
      simp [this x hx]
    simp [e]
  | some i =>
    obtain ⟨h1, h2, _⟩ := List.findIdx?_eq_some_iff_getElem.1 h
    have e : l.any p = true := List.any_eq_true.2 ⟨_, List.getElem_mem h1, h2⟩
    simp [e]
/-- Either nowhere, or where a list first has it. -/
theorem idxI_cases {α : Type} (p : α → Bool) (l : List α) : (idxI p l = -1 ∧ ∀ x ∈ l, p x = false) ∨ ∃ (k : Nat) (hk : k < l.length), idxI p l = (k : Int) ∧ p l[k] = true ∧ ∀ j (_ : j < l.length), j < k → p l[j] = false := by
  unfold idxI
  cases h : l.findIdx? p with
  | none => exact .inl ⟨rfl, fun x hx => by simpa using List.findIdx?_eq_none_iff.1 h x hx⟩
  | some i =>
    obtain ⟨h1, h2, h3⟩ := List.findIdx?_eq_some_iff_getElem.1 h
    exact .inr ⟨i, h1, rfl, h2, fun j hj hji => by simpa using h3 j hji⟩
end Go.Vm
end
section
namespace Go.Vm
section
variable {E : Env} {F F' : Nat → Nat → Prop} {st : St} {a : Act} {w w' : World} {P : Program}

/-- A row is known under another key. -/
theorem Rel.rerow (h : Rel E F st a w) {k k' b len e n : Nat} (hk : st.rw k = some (b, len, e, n)) (hk' : st.rw k' = none) : Rel E F { st with rw := upd (upd st.rw k none) k' (some (b, len, e, n)) } a w := by
  have hne : k' ≠ k := fun e' => by subst e'; rw [hk] at hk'; cases hk'
  have old : ∀ j x, upd (upd st.rw k none) k' (some (b, len, e, n)) j = some x → (j = k' ∧ x = (b, len, e, n)) ∨ (j ≠ k' ∧ j ≠ k ∧ st.rw j = some x) := by
    intro j x hj
    simp only [upd] at hj
    split at hj
    · rename_i e1; cases hj; exact .inl ⟨e1, rfl⟩
    · split at hj
      · cases hj
      · rename_i h1 h2; exact .inr ⟨h1, h2, hj⟩
  exact
  { h with
    rows := fun j b' l' e' n' hj => by
      rcases old j _ hj with ⟨_, hx⟩ | ⟨_, _, hx⟩
      · cases hx; exact h.rows _ _ _ _ _ hk
      · exact h.rows _ _ _ _ _ hx
    rowd := fun j1 j2 b' l e1 n1 l' e2 n2 h1 h2 => by
      rcases old j1 _ h1 with ⟨q1, hx⟩ | ⟨q1, q2, hx⟩ <;> rcases old j2 _ h2 with ⟨p1, hy⟩ | ⟨p1, p2, hy⟩
      · rw [q1, p1]
      · cases hx; exact absurd (h.rowd _ _ _ _ _ _ _ _ _ hy hk) p2
      · cases hy; exact absurd (h.rowd _ _ _ _ _ _ _ _ _ hx hk) q2
      · exact h.rowd _ _ _ _ _ _ _ _ _ hx hy
    boxrow := fun j1 j2 b' cs l e1 n1 h1 h2 => by
      rcases old j2 _ h2 with ⟨_, hx⟩ | ⟨_, _, hx⟩
      · cases hx; exact h.boxrow _ _ _ _ _ _ _ h1 hk
      · exact h.boxrow _ _ _ _ _ _ _ h1 hx }
/-- A box is known under another key. -/
theorem Rel.rekey (h : Rel E F st a w) {k k' b : Nat} {cs : List C} (hk : st.bx k = some (b, cs)) (hk' : st.bx k' = none) : Rel E F { st with bx := upd (upd st.bx k none) k' (some (b, cs)) } a w := by
  have hne : k' ≠ k := fun e' => by subst e'; rw [hk] at hk'; cases hk'
  have old : ∀ j x, upd (upd st.bx k none) k' (some (b, cs)) j = some x → (j = k' ∧ x = (b, cs)) ∨ (j ≠ k' ∧ j ≠ k ∧ st.bx j = some x) := by
    intro j x hj
    simp only [upd] at hj
    split at hj
    · rename_i e1; cases hj; exact .inl ⟨e1, rfl⟩
    · split at hj
      · cases hj
      · rename_i h1 h2; exact .inr ⟨h1, h2, hj⟩
  exact
  { h with
    boxes := fun j b' cs' hj => by
      rcases old j _ hj with ⟨_, hx⟩ | ⟨_, _, hx⟩
      · cases hx; exact h.boxes _ _ _ hk
      · exact h.boxes _ _ _ hx
    boxd := fun j1 j2 b' c1 c2 h1 h2 => by
      rcases old j1 _ h1 with ⟨q1, hx⟩ | ⟨q1, q2, hx⟩ <;> rcases old j2 _ h2 with ⟨p1, hy⟩ | ⟨p1, p2, hy⟩
      · rw [q1, p1]
      · cases hx; exact absurd (h.boxd _ _ _ _ _ hy hk) p2
      · cases hy; exact absurd (h.boxd _ _ _ _ _ hx hk) q2
      · exact h.boxd _ _ _ _ _ hx hy
    boxrow := fun j1 j2 b' cs' l e1 n1 h1 h2 => by
      rcases old j1 _ h1 with ⟨_, hx⟩ | ⟨_, _, hx⟩
      · cases hx; exact h.boxrow _ _ _ _ _ _ _ hk h2
      · exact h.boxrow _ _ _ _ _ _ _ hx h2 }
/-- What a map holds is read in another way. -/
theorem Rel.remap (h : Rel E F st a w) {k b nk : Nat} {kag vag : Bool} {ents ents' : List (List C)} (hb : st.bx k = some (b, [.mapc kag nk vag ents])) (hl : ents'.length = ents.length)
    (hr : ∀ (i : Nat) (c c' : List C), ents[i]? = some c → ents'[i]? = some c' → c'.take nk = c.take nk ∧ c.length ≤ c'.length ∧ ∀ v, CellsOf F w vag v (c.drop nk) → CellsOf F w vag v (c'.drop nk)) :
    Rel E F { st with bx := upd st.bx k (some (b, [.mapc kag nk vag ents'])) } a w := by
  obtain ⟨q1, q2, q3⟩ := h.boxes _ _ _ hb
  have new : ObjOk F w b [.mapc kag nk vag ents'] := by
    cases q1 with
    | cells cs cells T h1 h2 h3 =>
      have := h3 0 (by simp)
      simp only [List.getD_cons_zero] at this
      generalize cells.getD 0 undef = u at this
      cases this
    | map _ _ _ _ es h1 h2 h3 =>
      refine .map kag nk vag ents' es h1 (h2.trans hl.symm) fun i e c' he hc' => ?_
      have hi : i < ents.length := by rw [← hl]; exact (List.getElem?_eq_some_iff.1 hc').1
      obtain ⟨g1, g2, g3, g4⟩ := h3 i e _ he (List.getElem?_eq_getElem hi)
      obtain ⟨r1, r2, r3⟩ := hr i _ c' (List.getElem?_eq_getElem hi) hc'
      exact ⟨g1, Nat.le_trans g2 r2, by rw [r1]; exact g3, r3 _ g4⟩
  exact
  { h with
    boxes := fun k' b' cs1 hk => by
      simp only [upd] at hk
      split at hk
      · cases hk; exact ⟨new, q2, q3⟩
      · exact h.boxes k' b' cs1 hk
    boxd := fun k1 k2 b' cs1 cs2 h1 h2 => by
      simp only [upd] at h1 h2
      split at h1 <;> split at h2
      · subst_vars; rfl
      · cases h1; rename_i e1 _; subst e1; exact h.boxd _ _ _ _ _ hb h2
      · cases h2; rename_i e2; subst e2; exact h.boxd _ _ _ _ _ h1 hb
      · exact h.boxd k1 k2 b' cs1 cs2 h1 h2
    boxrow := fun k1 k2 b' cs1 l e n h1 h2 => by
      simp only [upd] at h1
      split at h1
      · cases h1; exact h.boxrow _ _ _ _ _ _ _ hb h2
      · exact h.boxrow k1 k2 b' cs1 l e n h1 h2 }
theorem CellsOf.wk {v : Value} {c c' : C} (h : CellsOf F w false v [c]) (hw : Wk (.c c) (.c c')) (hk : c'.known = true) : CellsOf F w false v [c'] := by
  obtain ⟨x, h1, h2, _⟩ := h
  cases h1
  exact ⟨.c c', rfl, hw F w v h2, by rw [List.all_cons, hk]; rfl⟩
/-- A slot is read in another way. -/
theorem Rel.reslot (h : Rel E F st a w) (t : Nat) {v : V} (hw : Wk (st.sl t) v) : Rel E F { st with sl := upd st.sl t v } a w :=
  { h with
    slots := fun t' => by
      simp only [upd]
      split
      · subst_vars; exact hw _ _ _ (h.slots _)
      · exact h.slots t' }
/-- Boxes and rows are read in another way, whatever the slots hold. -/
def Turn (st : St) (bx' : Nat → Option (Nat × List C)) (rw' : Nat → Option (Nat × Nat × TypeId × Nat)) : Prop :=
  ∀ E F sl a w, Rel E F { n := st.n, sl := sl, bx := st.bx, rw := st.rw } a w → ∃ F', Rel E F' { n := st.n, sl := sl, bx := bx', rw := rw' } a w
theorem Turn.refl (st : St) : Turn st st.bx st.rw := fun _ F _ _ _ h => ⟨F, h⟩
theorem Turn.trans {st : St} {b1 b2 : Nat → Option (Nat × List C)} {r1 r2 : Nat → Option (Nat × Nat × TypeId × Nat)} (h : Turn st b1 r1) (k : Turn { n := st.n, sl := st.sl, bx := b1, rw := r1 } b2 r2) : Turn st b2 r2 := by
  intro E F sl a w hr
  obtain ⟨F1, h1⟩ := h E F sl a w hr
  exact k E F1 sl a w h1
theorem Turn.put {st : St} {b1 : Nat → Option (Nat × List C)} {r1 : Nat → Option (Nat × Nat × TypeId × Nat)} (h : Turn st b1 r1) (t : Option Tmp) (v : V) : Turn (st.put t v) b1 r1 := by
  intro E F sl a w hr
  cases t <;> exact h E F sl a w hr
theorem Turn.rerow {st : St} {k k' b len e n : Nat} (hk : st.rw k = some (b, len, e, n)) (hk' : st.rw k' = none) : Turn st st.bx (upd (upd st.rw k none) k' (some (b, len, e, n))) :=
  fun _ F _ _ _ h => ⟨F, h.rerow hk hk'⟩
theorem Turn.rekey {st : St} {k k' b : Nat} {cs : List C} (hk : st.bx k = some (b, cs)) (hk' : st.bx k' = none) : Turn st (upd (upd st.bx k none) k' (some (b, cs))) st.rw :=
  fun _ F _ _ _ h => ⟨F, h.rekey hk hk'⟩
theorem Turn.remap {st : St} {k b nk : Nat} {kag vag : Bool} {ents ents' : List (List C)} (hb : st.bx k = some (b, [.mapc kag nk vag ents])) (hl : ents'.length = ents.length)
    (hr : ∀ (i : Nat) (c c' : List C), ents[i]? = some c → ents'[i]? = some c' → c'.take nk = c.take nk ∧ c.length ≤ c'.length ∧ ∀ F w v, CellsOf F w vag v (c.drop nk) → CellsOf F w vag v (c'.drop nk)) :
    Turn st (upd st.bx k (some (b, [.mapc kag nk vag ents']))) st.rw :=
  fun _ F _ _ w h => ⟨F, h.remap hb hl fun i c c' h1 h2 => let ⟨x, y, z⟩ := hr i c c' h1 h2; ⟨x, y, z F w⟩⟩
theorem Turn.rebox {st : St} {k b : Nat} {cs cs' : List C} (hb : st.bx k = some (b, cs)) (ho : isObj cs = false) (hl : cs'.length = cs.length)
    (hr : ∀ F w j v, j < cs.length → CR F w v (cs.getD j .any) → CR F w v (cs'.getD j .any)) : Turn st (upd st.bx k (some (b, cs'))) st.rw :=
  fun _ F _ _ w h => ⟨F, h.rebox hb ho hl (hr F w)⟩
theorem Tri.turn {E : Env} {c : Code} {Q : Exit → St → Prop} {st : St} {b1 : Nat → Option (Nat × List C)} {r1 : Nat → Option (Nat × Nat × TypeId × Nat)} (h : Turn st b1 r1) (hK : Tri P E c { n := st.n, sl := st.sl, bx := b1, rw := r1 } Q) : Tri P E c st Q :=
  Tri.recast (fun F a w hr => h E F st.sl a w hr) hK
/-- What holds when boxes and rows are read in another way. -/
def TurnI (I : St → Prop) (st : St) : Prop := ∃ b1 r1, Turn st b1 r1 ∧ I { n := st.n, sl := st.sl, bx := b1, rw := r1 }
theorem TurnI.of {I : St → Prop} {st : St} (h : I st) : TurnI I st := ⟨st.bx, st.rw, .refl st, h⟩
theorem Tri.ti {E : Env} {c : Code} {Q : Exit → St → Prop} {st : St} {I : St → Prop} (h : TurnI I st) (hK : ∀ st, I st → Tri P E c st Q) : Tri P E c st Q :=
  let ⟨_, _, h1, h2⟩ := h
  Tri.turn h1 (hK _ h2)
/-- Tri.range, where an element may end in a state whose boxes and rows are read in another way. -/
theorem Tri.rangeT {P : Program} {E : Env} {st : St} {Q : Exit → St → Prop} {id0 id1 r1 r2 : Nat} {ops1 ops2 : Array Oper} {body : Code} (ct lt tst inc n : Nat)
    (h1 : items ops1.toList = [⟨none, .binOp .lss 3 (.tmp ct) (.tmp lt) 3, some tst⟩])
    (h2 : items ops2.toList = [⟨none, .binOp .add 3 (.tmp ct) (.const (.int .i64 1)) 3, some inc⟩, ⟨none, .move (.tmp inc), some ct⟩])
    (len : Nat) (I : Nat → St → Prop) (hne : tst ≠ ct ∧ tst ≠ lt ∧ inc ≠ lt ∧ ct ≠ lt ∧ inc ≠ ct ∧ tst < n ∧ inc < n ∧ ct < n) (hlen : len ≤ 4611686018427387904)
    (hI : ∀ k st t v, (t = tst ∨ t = inc ∨ t = ct) → I k st → I k (st.put (some t) v))
    (hn : st.n = n) (hc : st.sl ct = .c (.int .i64 0)) (hl : st.sl lt = .c (.int .i64 len)) (h0 : I 0 st)
    (hb : ∀ k st, k < len → I k st → st.n = n → st.sl ct = .c (.int .i64 k) → st.sl lt = .c (.int .i64 len) →
      Tri P E body st (fun e st' => match e with
        | .normal => TurnI (I (k + 1)) st' ∧ st'.n = n ∧ st'.sl ct = .c (.int .i64 k) ∧ st'.sl lt = .c (.int .i64 len)
        | .exit id => if id = id1 then TurnI (I (k + 1)) st' ∧ st'.n = n ∧ st'.sl ct = .c (.int .i64 k) ∧ st'.sl lt = .c (.int .i64 len) else if id = id0 then Q .normal st' else Q (.exit id) st'
        | e => Q e st'))
    (hend : ∀ st, TurnI (I len) st → st.n = n → Q .normal st) :
    Tri P E (.block id0 (.loop (.seq (.region r1 ops1 false) (.seq (.cond (.tmp tst) .skip (.exit id0)) (.seq (.block id1 body) (.region r2 ops2 false)))))) st Q := by
  refine Tri.range ct lt tst inc n h1 h2 len (fun k => TurnI (I k)) hne hlen ?_ hn hc hl (.of h0) ?_ hend
  · rintro k st t v ht ⟨b1, q1, ht1, hi⟩
    exact ⟨b1, q1, ht1.put _ _, hI k _ t v ht hi⟩
  · rintro k st hk ⟨b1, q1, ht1, hi⟩ hn hc hl
    exact Tri.turn ht1 (hb k _ hk hi hn hc hl)
end
@[simp] theorem OpK_makeMap (P : Program) (d : Bool) (t : TypeId) (dst : Option Tmp) (st : St) (K : St → Prop) : OpK P d (.makeMap t none) dst st K = ∀ β, optK (evEff P (.makeMap t none) dst st β) dst K := OpK_op dst st K rfl
@[simp] theorem OpK_mapEntry (P : Program) (d : Bool) (t : TypeId) (m k : Operand) (dst : Option Tmp) (st : St) (K : St → Prop) : OpK P d (.mapEntry t m k) dst st K = optK (evEff P (.mapEntry t m k) dst st 0) dst K := by
  rw [OpK_op dst st K rfl]
  exact propext ⟨fun h => h 0, fun h _ => h⟩
@[simp] theorem OpK_entryStore (P : Program) (d : Bool) (t : TypeId) (m k x : Operand) (dst : Option Tmp) (st : St) (K : St → Prop) : OpK P d (.entryStore t m k x) dst st K = optK (evEff P (.entryStore t m k x) dst st 0) dst K := by
  rw [OpK_op dst st K rfl]
  exact propext ⟨fun h => h 0, fun h _ => h⟩
@[simp] theorem OpK_mapUpdate (P : Program) (d : Bool) (t : TypeId) (m k x : Operand) (dst : Option Tmp) (st : St) (K : St → Prop) : OpK P d (.mapUpdate t m k x) dst st K = optK (evEff P (.mapUpdate t m k x) dst st 0) dst K := by
  rw [OpK_op dst st K rfl]
  exact propext ⟨fun h => h 0, fun h _ => h⟩
@[simp] theorem OpK_lookup (P : Program) (d : Bool) (t : TypeId) (x y : Operand) (ok : Bool) (dst : Option Tmp) (st : St) (K : St → Prop) : OpK P d (.lookup t x y ok) dst st K = optK ((evPure P st.ev st.bx (.lookup t x y ok)).map fun v => (st, v)) dst K := OpK_calm dst st K rfl rfl
@[simp] theorem OpK_range (P : Program) (d : Bool) (t : TypeId) (x : Operand) (dst : Option Tmp) (st : St) (K : St → Prop) : OpK P d (.range t x) dst st K = ∀ β, optK (evEff P (.range t x) dst st β) dst K := OpK_op dst st K rfl
@[simp] theorem OpK_next (P : Program) (d : Bool) (it : Operand) (b : Bool) (dst : Option Tmp) (st : St) (K : St → Prop) : OpK P d (.next it b) dst st K = ∀ β, optK (evEff P (.next it b) dst st β) dst K := OpK_op dst st K rfl
@[simp] theorem OpK_entry (P : Program) (d : Bool) (it : Operand) (dst : Option Tmp) (st : St) (K : St → Prop) : OpK P d (.entry it) dst st K = optK (evEff P (.entry it) dst st 0) dst K := by
  rw [OpK_op dst st K rfl]
  exact propext ⟨fun h => h 0, fun h _ => h⟩
theorem findE_map {α : Type} (c : α → List C) (f n : α → Int) (hc : ∀ x, (c x).take 2 = [.int .i64 (f x), .int .i64 (n x)]) (F N : Int) : ∀ (l : List α) (i0 : Nat),
    findE [0, 1] 2 [.int .i64 F, .int .i64 N] (l.map c) i0 = some ((l.findIdx? (fun x => F == f x && N == n x)).map (· + i0))
  | [], i0 => rfl
  | x :: l, i0 => by
    rw [List.map_cons, findE, hc x, List.findIdx?_cons]
    have e : planV [.int .i64 F, .int .i64 N] [.int .i64 (f x), .int .i64 (n x)] [0, 1] = some (F == f x && N == n x) := by simp [planV]
    rw [e]
    cases h : (F == f x && N == n x) with
    | true => simp
    | false =>
      simp only [findE_map c f n hc F N l (i0 + 1), Bool.false_eq_true, if_false, Option.map_map]
      congr 2
      funext k
      simp; omega
theorem Wk.map (k k' b : Nat) : Wk (.c (.map k b)) (.c (.map k' b)) := by
  intro F w v h
  have h := h.inv
  cases h
  exact .c (.map _ _)
end Go.Vm
end
