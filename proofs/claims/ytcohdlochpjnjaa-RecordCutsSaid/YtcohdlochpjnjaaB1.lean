/- Lemmas for the statements of this seat: VmN. -/
import Derived.Test.YtcohdlochpjnjaaB0
set_option linter.all false
section
namespace Go.Vm
attribute [simp] planV
attribute [simp] capV appNV
attribute [simp] items itOf gate evEff evPure St.put St.ev upd dstOk vOf cOf binV intV strV unV evLoad mkV idxAddrV idxV fldAddrV bndV sliceV lenV minV maxV capsOf extV fieldV convV intsOf buildV fillC cellsAll sliceEls storeV appV appCore St.setBx St.setRw
attribute [simp] C.known C.strip V.cells V.strip thenS blockS st0 st0B bxOf rwOf resV resAll resOne BxIs RwIs St.setBxs St.clrRws St.setRws Wks


/-! ## Evaluation by simp: no continuation is looked into before its turn -/
def RunK (P : Program) (d : Bool) (is : List It) (K : St → Prop) (st : St) : Prop := RunOps P d is st K
def optK (x : Option (St × V)) (dst : Option Tmp) (K : St → Prop) : Prop := match x with
  | some sv => K (sv.1.put dst sv.2)
  | none => False
def gateK (P : Program) (d : Bool) (g : Option Bool) (op : Op) (dst : Option Tmp) (st : St) (K : St → Prop) : Prop := match g with
  | some true => dstOk st dst = true ∧ OpK P d op dst st K
  | some false => dstOk st dst = true ∧ K (st.put dst (.c .und))
  | none => False
def goCall : Op → Bool
  | .call { callee := .value _, .. } => true
  | _ => false
@[simp] theorem RunK_apply (P : Program) (d : Bool) (is : List It) (K : St → Prop) (st : St) : RunK P d is K st = RunOps P d is st K := rfl
@[simp] theorem RunOps_nil (P : Program) (d : Bool) (K : St → Prop) (st : St) : RunOps P d [] st K = K st := rfl
@[simp] theorem RunOps_cons (P : Program) (d : Bool) (i : It) (is : List It) (K : St → Prop) (st : St) : RunOps P d (i :: is) st K = gateK P d (gate i.gd st) i.op i.dst st (RunK P d is K) := rfl
@[simp] theorem gateK_true (P : Program) (d : Bool) (op : Op) (dst : Option Tmp) (st : St) (K : St → Prop) : gateK P d (some true) op dst st K = (dstOk st dst = true ∧ OpK P d op dst st K) := rfl
@[simp] theorem gateK_false (P : Program) (d : Bool) (op : Op) (dst : Option Tmp) (st : St) (K : St → Prop) : gateK P d (some false) op dst st K = (dstOk st dst = true ∧ K (st.put dst (.c .und))) := rfl
@[simp] theorem optK_some (s : St) (v : V) (dst : Option Tmp) (K : St → Prop) : optK (some (s, v)) dst K = K (s.put dst v) := rfl
theorem OpK_op {P : Program} {d : Bool} {op : Op} (dst : Option Tmp) (st : St) (K : St → Prop) (h : goCall op = false) : OpK P d op dst st K = ∀ β, optK (evEff P op dst st β) dst K := by
  unfold OpK
  split
  · simp [goCall] at h
  · rfl
theorem OpK_calm {P : Program} {d : Bool} {op : Op} (dst : Option Tmp) (st : St) (K : St → Prop) (h : goCall op = false) (he : isEff op = false) : OpK P d op dst st K = optK (evEff P op dst st 0) dst K := by
  rw [OpK_op dst st K h]
  apply propext
  rcases evEff_calm (P := P) (dst := dst) (st := st) he with hn | ⟨v, hv⟩
  · exact ⟨fun h => h 0, fun h β => by rw [hn] at h ⊢; exact h⟩
  · exact ⟨fun h => h 0, fun h β => by rw [hv] at h ⊢; exact h⟩
@[simp] theorem OpK_go (P : Program) (d : Bool) (fo : Operand) (args : Array Operand) (ats : Array TypeId) (dst : Option Tmp) (st : St) (K : St → Prop) :
    OpK P d (.call { callee := .value fo, args := args, argTypes := ats }) dst st K = (match st.ev fo with | .c (.fn f caps) => CallK P d f (args.toList.map st.ev ++ caps.map .c) st dst K | _ => False) := rfl
@[simp] theorem OpK_load (P : Program) (d : Bool) (t : TypeId) (x : Operand) (dst : Option Tmp) (st : St) (K : St → Prop) : OpK P d (.load t x) dst st K = optK (evEff P (.load t x) dst st 0) dst K := OpK_calm dst st K rfl rfl
@[simp] theorem OpK_store (P : Program) (d : Bool) (t : TypeId) (x y : Operand) (dst : Option Tmp) (st : St) (K : St → Prop) : OpK P d (.store t x y) dst st K = optK (evEff P (.store t x y) dst st 0) dst K := by
  rw [OpK_op dst st K rfl]
  exact propext ⟨fun h => h 0, fun h _ => h⟩
@[simp] theorem OpK_alloc (P : Program) (d : Bool) (t : TypeId) (dst : Option Tmp) (st : St) (K : St → Prop) : OpK P d (.alloc t) dst st K = ∀ β, optK (evEff P (.alloc t) dst st β) dst K := OpK_op dst st K rfl
@[simp] theorem OpK_box (P : Program) (d : Bool) (t : TypeId) (x : Operand) (dst : Option Tmp) (st : St) (K : St → Prop) : OpK P d (.box t x) dst st K = ∀ β, optK (evEff P (.box t x) dst st β) dst K := OpK_op dst st K rfl
@[simp] theorem OpK_append (P : Program) (d : Bool) (args : Array Operand) (ats : Array TypeId) (dst : Option Tmp) (st : St) (K : St → Prop) :
    OpK P d (.call { callee := .builtin .append, args := args, argTypes := ats }) dst st K = ∀ β, optK (evEff P (.call { callee := .builtin .append, args := args, argTypes := ats }) dst st β) dst K := OpK_op dst st K rfl
@[simp] theorem OpK_move (P : Program) (d : Bool) (x : Operand) (dst : Option Tmp) (st : St) (K : St → Prop) : OpK P d (.move x) dst st K = optK ((evPure P st.ev st.bx (.move x)).map fun v => (st, v)) dst K := OpK_calm dst st K rfl rfl
@[simp] theorem OpK_assign (P : Program) (d : Bool) (x : Operand) (dst : Option Tmp) (st : St) (K : St → Prop) : OpK P d (.assign x) dst st K = optK ((evPure P st.ev st.bx (.assign x)).map fun v => (st, v)) dst K := OpK_calm dst st K rfl rfl
@[simp] theorem OpK_pick (P : Program) (d : Bool) (c : Operand) (x : Operand) (y : Operand) (dst : Option Tmp) (st : St) (K : St → Prop) : OpK P d (.pick c x y) dst st K = optK ((evPure P st.ev st.bx (.pick c x y)).map fun v => (st, v)) dst K := OpK_calm dst st K rfl rfl
@[simp] theorem OpK_build (P : Program) (d : Bool) (t : TypeId) (ps : Array (Nat × Operand)) (dst : Option Tmp) (st : St) (K : St → Prop) : OpK P d (.build t ps) dst st K = optK (evEff P (.build t ps) dst st 0) dst K := OpK_calm dst st K rfl rfl
@[simp] theorem OpK_binOp (P : Program) (d : Bool) (o : BinOp) (t : TypeId) (x : Operand) (y : Operand) (t2 : TypeId) (dst : Option Tmp) (st : St) (K : St → Prop) : OpK P d (.binOp o t x y t2) dst st K = optK ((evPure P st.ev st.bx (.binOp o t x y t2)).map fun v => (st, v)) dst K := OpK_calm dst st K rfl rfl
@[simp] theorem OpK_unOp (P : Program) (d : Bool) (o : UnOp) (t : TypeId) (x : Operand) (dst : Option Tmp) (st : St) (K : St → Prop) : OpK P d (.unOp o t x) dst st K = optK ((evPure P st.ev st.bx (.unOp o t x)).map fun v => (st, v)) dst K := OpK_calm dst st K rfl rfl
@[simp] theorem OpK_convert (P : Program) (d : Bool) (t : TypeId) (t2 : TypeId) (x : Operand) (dst : Option Tmp) (st : St) (K : St → Prop) : OpK P d (.convert t t2 x) dst st K = optK ((evPure P st.ev st.bx (.convert t t2 x)).map fun v => (st, v)) dst K := OpK_calm dst st K rfl rfl
@[simp] theorem OpK_makeFunc (P : Program) (d : Bool) (fn : Fn) (p : Array Operand) (q : Array Operand) (dst : Option Tmp) (st : St) (K : St → Prop) : OpK P d (.makeFunc fn p q) dst st K = optK ((evPure P st.ev st.bx (.makeFunc fn p q)).map fun v => (st, v)) dst K := OpK_calm dst st K rfl rfl
@[simp] theorem OpK_makeSlice (P : Program) (d : Bool) (t : TypeId) (x : Operand) (y : Operand) (dst : Option Tmp) (st : St) (K : St → Prop) : OpK P d (.makeSlice t x y) dst st K = optK ((evPure P st.ev st.bx (.makeSlice t x y)).map fun v => (st, v)) dst K := OpK_calm dst st K rfl rfl
@[simp] theorem OpK_slice (P : Program) (d : Bool) (t : TypeId) (x : Operand) (l : Option Operand) (h : Option Operand) (m : Option Operand) (dst : Option Tmp) (st : St) (K : St → Prop) : OpK P d (.slice t x l h m) dst st K = optK ((evPure P st.ev st.bx (.slice t x l h m)).map fun v => (st, v)) dst K := OpK_calm dst st K rfl rfl
@[simp] theorem OpK_fieldAddr (P : Program) (d : Bool) (t : TypeId) (x : Operand) (f : Nat) (dst : Option Tmp) (st : St) (K : St → Prop) : OpK P d (.fieldAddr t x f) dst st K = optK ((evPure P st.ev st.bx (.fieldAddr t x f)).map fun v => (st, v)) dst K := OpK_calm dst st K rfl rfl
@[simp] theorem OpK_field (P : Program) (d : Bool) (t : TypeId) (x : Operand) (f : Nat) (dst : Option Tmp) (st : St) (K : St → Prop) : OpK P d (.field t x f) dst st K = optK ((evPure P st.ev st.bx (.field t x f)).map fun v => (st, v)) dst K := OpK_calm dst st K rfl rfl
@[simp] theorem OpK_indexAddr (P : Program) (d : Bool) (t : TypeId) (x : Operand) (y : Operand) (dst : Option Tmp) (st : St) (K : St → Prop) : OpK P d (.indexAddr t x y) dst st K = optK ((evPure P st.ev st.bx (.indexAddr t x y)).map fun v => (st, v)) dst K := OpK_calm dst st K rfl rfl
@[simp] theorem OpK_index (P : Program) (d : Bool) (t : TypeId) (x : Operand) (y : Operand) (dst : Option Tmp) (st : St) (K : St → Prop) : OpK P d (.index t x y) dst st K = optK ((evPure P st.ev st.bx (.index t x y)).map fun v => (st, v)) dst K := OpK_calm dst st K rfl rfl
@[simp] theorem OpK_extract (P : Program) (d : Bool) (x : Operand) (f : Nat) (dst : Option Tmp) (st : St) (K : St → Prop) : OpK P d (.extract x f) dst st K = optK ((evPure P st.ev st.bx (.extract x f)).map fun v => (st, v)) dst K := OpK_calm dst st K rfl rfl
@[simp] theorem OpK_nilCheck (P : Program) (d : Bool) (x : Operand) (dst : Option Tmp) (st : St) (K : St → Prop) : OpK P d (.nilCheck x) dst st K = optK ((evPure P st.ev st.bx (.nilCheck x)).map fun v => (st, v)) dst K := OpK_calm dst st K rfl rfl
@[simp] theorem OpK_len (P : Program) (d : Bool) (args : Array Operand) (ats : Array TypeId) (dst : Option Tmp) (st : St) (K : St → Prop) : OpK P d (.call { callee := .builtin .len, args := args, argTypes := ats }) dst st K = optK (evEff P (.call { callee := .builtin .len, args := args, argTypes := ats }) dst st 0) dst K := OpK_calm dst st K rfl rfl
@[simp] theorem OpK_cap (P : Program) (d : Bool) (args : Array Operand) (ats : Array TypeId) (dst : Option Tmp) (st : St) (K : St → Prop) : OpK P d (.call { callee := .builtin .cap, args := args, argTypes := ats }) dst st K = optK (evEff P (.call { callee := .builtin .cap, args := args, argTypes := ats }) dst st 0) dst K := OpK_calm dst st K rfl rfl
@[simp] theorem OpK_min (P : Program) (d : Bool) (args : Array Operand) (ats : Array TypeId) (dst : Option Tmp) (st : St) (K : St → Prop) : OpK P d (.call { callee := .builtin .min, args := args, argTypes := ats }) dst st K = optK (evEff P (.call { callee := .builtin .min, args := args, argTypes := ats }) dst st 0) dst K := OpK_calm dst st K rfl rfl
@[simp] theorem OpK_max (P : Program) (d : Bool) (args : Array Operand) (ats : Array TypeId) (dst : Option Tmp) (st : St) (K : St → Prop) : OpK P d (.call { callee := .builtin .max, args := args, argTypes := ats }) dst st K = optK (evEff P (.call { callee := .builtin .max, args := args, argTypes := ats }) dst st 0) dst K := OpK_calm dst st K rfl rfl
@[simp] theorem OpK_buildSlice (P : Program) (d : Bool) (t : TypeId) (n : Nat) (ps : Array (Nat × Operand)) (dst : Option Tmp) (st : St) (K : St → Prop) :
    OpK P d (.buildSlice t (n + 1) ps) dst st K = optK (evEff P (.buildSlice t (n + 1) ps) dst st 0) dst K := OpK_calm dst st K rfl rfl
@[simp] theorem OpK_buildSlice0 (P : Program) (d : Bool) (t : TypeId) (ps : Array (Nat × Operand)) (dst : Option Tmp) (st : St) (K : St → Prop) :
    OpK P d (.buildSlice t 0 ps) dst st K = ∀ β, optK (evEff P (.buildSlice t 0 ps) dst st β) dst K := OpK_op dst st K rfl

def runItK (P : Program) (it : Option It) (D : List Tmp) (st : St) (K : St → Prop) : Prop := match it with
  | some it => keyOk D it.op st ∧ gateK P true (gate it.gd st) it.op it.dst st K
  | none => False
def RunAK (P : Program) (D : List Tmp) (its : List It) (r : List Nat) (K : St → Prop) (st : St) : Prop := RunA P D its r st K
@[simp] theorem RunAK_apply (P : Program) (D : List Tmp) (its : List It) (r : List Nat) (K : St → Prop) (st : St) : RunAK P D its r K st = RunA P D its r st K := rfl
@[simp] theorem RunA_nil (P : Program) (D : List Tmp) (its : List It) (K : St → Prop) (st : St) : RunA P D its [] st K = K st := rfl
@[simp] theorem RunA_cons (P : Program) (D : List Tmp) (its : List It) (i : Nat) (r : List Nat) (K : St → Prop) (st : St) : RunA P D its (i :: r) st K = runItK P its[i]? D st (RunAK P D its r K) := by
  unfold RunA runItK
  cases its[i]? <;> rfl
@[simp] theorem runItK_some (P : Program) (it : It) (D : List Tmp) (st : St) (K : St → Prop) : runItK P (some it) D st K = (keyOk D it.op st ∧ gateK P true (gate it.gd st) it.op it.dst st K) := rfl
def RunAllK (P : Program) (its : List It) (n : Nat) (l : List Nat) (K : St → Prop) (st : St) : Prop := RunAll P its n l st K
@[simp] theorem RunAllK_apply (P : Program) (its : List It) (n : Nat) (l : List Nat) (K : St → Prop) (st : St) : RunAllK P its n l K st = RunAll P its n l st K := rfl
@[simp] theorem RunAll_zero (P : Program) (its : List It) (l : List Nat) (K : St → Prop) (st : St) : RunAll P its 0 l st K = K st := rfl
def stepAll (P : Program) (it : Option It) (st : St) (K : St → Prop) : Prop := match it with
  | some it => gateK P true (gate it.gd st) it.op it.dst st K
  | none => False
@[simp] theorem stepAll_some (P : Program) (it : It) (st : St) (K : St → Prop) : stepAll P (some it) st K = gateK P true (gate it.gd st) it.op it.dst st K := rfl
@[simp] theorem RunAll_succ (P : Program) (its : List It) (n : Nat) (l : List Nat) (K : St → Prop) (st : St) : RunAll P its (n + 1) l st K = ∀ i ∈ l, stepAll P its[i]? st (RunAllK P its n (l.erase i) K) := by
  unfold RunAll stepAll
  apply propext
  refine forall_congr' fun i => imp_congr Iff.rfl ?_
  cases its[i]? <;> exact Iff.rfl
attribute [simp] keyOk
@[simp] theorem range_1 : List.range 1 = [0] := rfl
@[simp] theorem range_2 : List.range 2 = [0, 1] := rfl
@[simp] theorem range_3 : List.range 3 = [0, 1, 2] := rfl
@[simp] theorem range_4 : List.range 4 = [0, 1, 2, 3] := rfl
@[simp] theorem range_5 : List.range 5 = [0, 1, 2, 3, 4] := rfl
@[simp] theorem range_6 : List.range 6 = [0, 1, 2, 3, 4, 5] := rfl
@[simp] theorem range_7 : List.range 7 = [0, 1, 2, 3, 4, 5, 6] := rfl
@[simp] theorem range_8 : List.range 8 = [0, 1, 2, 3, 4, 5, 6, 7] := rfl
@[simp] theorem range_9 : List.range 9 = [0, 1, 2, 3, 4, 5, 6, 7, 8] := rfl

@[simp] theorem i64w_0 : IntKind.i64.wrap 0 = 0 := rfl
@[simp] theorem i64w_1 : IntKind.i64.wrap 1 = 1 := rfl
@[simp] theorem i64w_2 : IntKind.i64.wrap 2 = 2 := rfl
@[simp] theorem i64w_3 : IntKind.i64.wrap 3 = 3 := rfl
@[simp] theorem i64w_4 : IntKind.i64.wrap 4 = 4 := rfl
@[simp] theorem i64w_5 : IntKind.i64.wrap 5 = 5 := rfl
@[simp] theorem i64w_6 : IntKind.i64.wrap 6 = 6 := rfl
@[simp] theorem i64w_7 : IntKind.i64.wrap 7 = 7 := rfl
@[simp] theorem i64w_8 : IntKind.i64.wrap 8 = 8 := rfl
@[simp] theorem i64w_9 : IntKind.i64.wrap 9 = 9 := rfl
@[simp] theorem i64w_10 : IntKind.i64.wrap 10 = 10 := rfl
@[simp] theorem i64w_11 : IntKind.i64.wrap 11 = 11 := rfl
@[simp] theorem i64w_12 : IntKind.i64.wrap 12 = 12 := rfl
@[simp] theorem i64w_m1 : IntKind.i64.wrap (-1) = -1 := rfl
theorem wrap_i64 {x : Int} (h1 : -9223372036854775808 ≤ x) (h2 : x ≤ 9223372036854775807) : IntKind.i64.wrap x = x := IntWalk.i64_in x ⟨h1, h2⟩
theorem wrap_succ {k : Nat} (h : k < 4611686018427387904) : IntKind.i64.wrap ((k : Int) + 1) = ((k + 1 : Nat) : Int) := by
  rw [wrap_i64 (by omega) (by omega)]; rfl

/-- A slice that grows by append: nil as long as it is empty, then a row of its own. -/
def Grows (st : St) (v : V) (key e sz : Nat) (es : List (List C)) : Prop :=
  (es = [] ∧ ∃ n own, v = .c (.sl true n own [])) ∨ (es ≠ [] ∧ ∃ b, v = .c (.sl false sz (some (key, b)) es) ∧ st.rw key = some (b, es.length, e, sz))

theorem Wk.nil (n n' : Nat) (own own' : Option (Nat × Nat)) : Wk (.c (.sl true n own [])) (.c (.sl true n' own' [])) := by
  intro F w v h
  have h := h.inv
  cases h
  exact .c (.nil _ _)
theorem Wk.untag (nl : Bool) (n : Nat) (own : Option (Nat × Nat)) (es : List (List C)) : Wk (.c (.sl nl n own es)) (.c (.sl nl n none es)) := Wk.strip (.c (.sl nl n own es))
theorem Wk.box (k k' b o : Nat) : Wk (.c (.box k b o)) (.c (.box k' b o)) := by
  intro F w v h
  have h := h.inv
  cases h
  exact .c (.box _ _ _)
theorem Wk.rekey (nl : Bool) (n k k' b : Nat) (es : List (List C)) : Wk (.c (.sl nl n (some (k, b)) es)) (.c (.sl nl n (some (k', b)) es)) := by
  intro F w v h
  have h := h.inv
  cases h with
  | nil => exact .c (.nil _ _)
  | sl b' off cap n own es cells hle hn hlen hF hc h1 hr ho => exact .c (.sl b' off cap n _ es cells hle hn hlen hF hc h1 hr (fun key b2 e => by cases e; exact ho k b rfl))
theorem Wk.agg {cs cs' : List C} (hl : cs.length = cs'.length) (h : ∀ k, k < cs.length → Wk (.c (cs.getD k .any)) (.c (cs'.getD k .any))) : Wk (.agg cs) (.agg cs') := by
  intro F w v hv
  cases hv with
  | agg vs _ hs hr => exact .agg vs cs' (hs.trans hl) (fun k hk => (h k (by omega) F w _ (.c (hr k (by omega)))).inv)
theorem Wk.fn (f : FuncId) {cs cs' : List C} (hl : cs.length = cs'.length) (h : ∀ k, k < cs.length → Wk (.c (cs.getD k .any)) (.c (cs'.getD k .any))) : Wk (.c (.fn f cs)) (.c (.fn f cs')) := by
  intro F w v hv
  have hv := hv.inv
  cases hv with
  | fn _ _ vs hvl hr => exact .c (.fn f cs' vs (by rw [hvl, hl]) fun k hk => (h k (by omega) F w _ (.c (hr k (by omega)))).inv)
theorem Wk.fn1 (f : FuncId) {c c' : C} (h : Wk (.c c) (.c c')) : Wk (.c (.fn f [c])) (.c (.fn f [c'])) := .fn f rfl fun k hk => by
  simp only [List.length_singleton] at hk
  obtain rfl : k = 0 := by omega
  exact h
theorem and_same {K : St → Prop} {s t : St} (h : t = s) (hk : K s) : K s ∧ K t := ⟨hk, h ▸ hk⟩
theorem Wk.agg3 {a b c a' b' c' : C} (h1 : Wk (.c a) (.c a')) (h2 : Wk (.c b) (.c b')) (h3 : Wk (.c c) (.c c')) : Wk (.agg [a, b, c]) (.agg [a', b', c']) :=
  .agg rfl fun k hk => match k, hk with
    | 0, _ => h1
    | 1, _ => h2
    | 2, _ => h3
theorem Wk.tup2 {a b a' b' : V} (h1 : Wk a a') (h2 : Wk b b') : Wk (.tup [a, b]) (.tup [a', b']) := by
  intro F w v hv
  cases hv with
  | tup vs _ hs hr => exact .tup vs _ hs (fun k hk => match k, hk with
    | 0, h0 => h1 F w _ (hr 0 h0)
    | 1, h0 => h2 F w _ (hr 1 h0))
theorem Wk.trans {x y z : V} (h : Wk x y) (k : Wk y z) : Wk x z := fun F w v hv => k F w v (h F w v hv)
theorem Wk.any (x : V) : Wk x (.c .any) := fun F w v _ => .any F w v
theorem Wk.of_eq {x y : V} (h : x = y) : Wk x y := h ▸ .refl x

theorem Grows.wk {st : St} {v : V} {key e sz : Nat} {es : List (List C)} (h : Grows st v key e sz es) : Wk v (.c (.sl es.isEmpty sz none es)) := by
  rcases h with ⟨rfl, n, own, rfl⟩ | ⟨hne, b, rfl, _⟩
  · exact .nil _ _ _ _
  · have : es.isEmpty = false := by cases es <;> simp_all
    rw [this]; exact .untag _ _ _ _
theorem Grows.nil (st : St) (key e sz n : Nat) (own : Option (Nat × Nat)) : Grows st (.c (.sl true n own [])) key e sz [] := .inl ⟨rfl, n, own, rfl⟩
theorem Grows.own {st : St} {key e sz b : Nat} {es : List (List C)} (hne : es ≠ []) (h : st.rw key = some (b, es.length, e, sz)) : Grows st (.c (.sl false sz (some (key, b)) es)) key e sz es := .inr ⟨hne, b, rfl, h⟩

theorem upd_upd {α : Type} (f : Nat → α) (k : Nat) (v u : α) : upd (upd f k v) k u = upd f k u := by
  funext j
  simp only [upd]
  split <;> rfl
/-- A call that is handed a slice of one's own, and hands it back. -/
theorem CallK.row1 {P : Program} {f : FuncId} {args as : List V} {st : St} {dst : Option Tmp} {K : St → Prop} {key b len e n len' : Nat} {es : List (List C)}
    (h : DoesB P f as [] [(key, b, len, e, n)] (fun β => (.c (.sl false n (some (0, β)) es), [], [(0, β, len', e, n)]))) (hw : Wks args as) (hr : st.rw key = some (b, len, e, n))
    (hK : ∀ β, K (({ st with rw := upd st.rw key (some (β, len', e, n)) } : St).put dst (.c (.sl false n (some (key, β)) es)))) : CallK P false f args st dst K := by
  refine CallK.boxed h [] [key] [key] (fun β => .c (.sl false n (some (key, β)) es)) hw trivial ⟨hr, trivial⟩ (by simp) (by simp) (fun β => Wk.rekey _ _ _ _ _ _) (fun _ => rfl) (by simp) fun β => ?_
  have := hK β
  simp only [St.setBxs, St.clrRws, St.setRws, upd_upd]
  exact this
theorem CallK.row0 {P : Program} {f : FuncId} {args as : List V} {st : St} {dst : Option Tmp} {K : St → Prop} (key : Nat) {e n len' : Nat} {es : List (List C)}
    (h : DoesB P f as [] [] (fun β => (.c (.sl false n (some (0, β)) es), [], [(0, β, len', e, n)]))) (hw : Wks args as)
    (hK : ∀ β, K (({ st with rw := upd st.rw key (some (β, len', e, n)) } : St).put dst (.c (.sl false n (some (key, β)) es)))) : CallK P false f args st dst K := by
  refine CallK.boxed h [] [] [key] (fun β => .c (.sl false n (some (key, β)) es)) hw trivial trivial (by simp) (by simp) (fun β => Wk.rekey _ _ _ _ _ _) (fun _ => rfl) (by simp) fun β => ?_
  have := hK β
  simp only [St.setBxs, St.clrRws, St.setRws]
  exact this

theorem CallK.box1 {P : Program} {f : FuncId} {args as : List V} {st : St} {dst : Option Tmp} {K : St → Prop} {key b : Nat} {cs cs' : List C} {r : V}
    (h : DoesB P f as [(key, b, cs)] [] (fun _ => (r, [(key, b, cs')], []))) (hw : Wks args as) (hb : st.bx key = some (b, cs))
    (hK : K (({ st with bx := upd st.bx key (some (b, cs')) } : St).put dst r)) : CallK P false f args st dst K := by
  refine CallK.boxed h [key] [] [] (fun _ => r) hw ⟨hb, trivial⟩ trivial (by simp) (by simp) (fun _ => Wk.refl _) (fun _ => rfl) (by simp) fun _ => ?_
  simp only [St.setBxs, St.clrRws, St.setRws]
  exact hK
theorem CallK.boxes {P : Program} {f : FuncId} {args as : List V} {st : St} {dst : Option Tmp} {K : St → Prop} {bs bs' : List Bx} {r : V}
    (h : DoesB P f as bs [] (fun _ => (r, bs', []))) (hw : Wks args as) (hb : BxIs st (bs.map (·.1)) bs) (hnd : (bs.map (·.1)).Nodup)
    (hK : K ((st.setBxs (bs.map (·.1)) bs').put dst r)) : CallK P false f args st dst K := by
  refine CallK.boxed h (bs.map (·.1)) [] [] (fun _ => r) hw hb trivial hnd (by simp) (fun _ => Wk.refl _) (fun _ => rfl) (by simp) fun _ => ?_
  simp only [St.clrRws, St.setRws]
  exact hK

/-- A loop that goes round at most n times. -/
def Rounds (P : Program) (E : Env) (c : Code) (Q : Exit → St → Prop) : Nat → St → Prop
  | 0, _ => False
  | n + 1, st => Tri P E c st (thenS (Rounds P E c Q n) Q)
theorem Rounds.step {P : Program} {E : Env} {c : Code} {Q : Exit → St → Prop} {n : Nat} {st : St} (h : Tri P E c st (thenS (Rounds P E c Q n) Q)) : Rounds P E c Q (n + 1) st := h
theorem Tri.rounds {P : Program} {E : Env} {c : Code} {Q : Exit → St → Prop} {st : St} (n : Nat) (h : Rounds P E c Q n st) : Tri P E (.loop c) st Q := by
  refine Tri.loop (fun m s => Rounds P E c Q m s) n h fun m s hm => ?_
  cases m with
  | zero => exact hm.elim
  | succ m =>
    refine Tri.mono hm fun e s' hq => ?_
    cases e with
    | normal => exact ⟨m, by omega, hq⟩
    | _ => exact hq
theorem Tri.block_loop {P : Program} {E : Env} {st : St} {Q : Exit → St → Prop} {id : Nat} {c : Code} (n : Nat) (h : Rounds P E c (blockS id Q) n st) : Tri P E (.block id (.loop c)) st Q := .block (.rounds n h)

theorem Tri.cond_true {P : Program} {E : Env} {st : St} {Q : Exit → St → Prop} {c : Operand} {x y : Code} (hc : st.ev c = .c (.bool true)) (h : Tri P E x st Q) : Tri P E (.cond c x y) st Q := .cond hc (fun _ => h) (fun h => nomatch h)
theorem Tri.cond_false {P : Program} {E : Env} {st : St} {Q : Exit → St → Prop} {c : Operand} {x y : Code} (hc : st.ev c = .c (.bool false)) (h : Tri P E y st Q) : Tri P E (.cond c x y) st Q := .cond hc (fun h => nomatch h) (fun _ => h)

theorem Tri.block_seq {P : Program} {E : Env} {st : St} {Q : Exit → St → Prop} {id : Nat} {x y : Code} (h : Tri P E (.seq x y) st (blockS id Q)) : Tri P E (.block id (.seq x y)) st Q := .block h
theorem Tri.block_region {P : Program} {E : Env} {st : St} {Q : Exit → St → Prop} {id i : Nat} {o : Array Oper} {d : Bool} (h : Tri P E (.region i o d) st (blockS id Q)) : Tri P E (.block id (.region i o d)) st Q := .block h
theorem Tri.block_cond {P : Program} {E : Env} {st : St} {Q : Exit → St → Prop} {id : Nat} {c : Operand} {x y : Code} (h : Tri P E (.cond c x y) st (blockS id Q)) : Tri P E (.block id (.cond c x y)) st Q := .block h

/-- 'for i, x := range xs': 'I k st': what holds when k elements are done. -/
theorem Tri.range {P : Program} {E : Env} {st : St} {Q : Exit → St → Prop} {id0 id1 r1 r2 : Nat} {ops1 ops2 : Array Oper} {body : Code} (ct lt tst inc n : Nat)
    (h1 : items ops1.toList = [⟨none, .binOp .lss 3 (.tmp ct) (.tmp lt) 3, some tst⟩])
    (h2 : items ops2.toList = [⟨none, .binOp .add 3 (.tmp ct) (.const (.int .i64 1)) 3, some inc⟩, ⟨none, .move (.tmp inc), some ct⟩])
    (len : Nat) (I : Nat → St → Prop) (hne : tst ≠ ct ∧ tst ≠ lt ∧ inc ≠ lt ∧ ct ≠ lt ∧ inc ≠ ct ∧ tst < n ∧ inc < n ∧ ct < n) (hlen : len ≤ 4611686018427387904)
    (hI : ∀ k st t v, (t = tst ∨ t = inc ∨ t = ct) → I k st → I k (st.put (some t) v))
    (hn : st.n = n) (hc : st.sl ct = .c (.int .i64 0)) (hl : st.sl lt = .c (.int .i64 len)) (h0 : I 0 st)
    (hb : ∀ k st, k < len → I k st → st.n = n → st.sl ct = .c (.int .i64 k) → st.sl lt = .c (.int .i64 len) →
      Tri P E body st (fun e st' => match e with
        | .normal => I (k + 1) st' ∧ st'.n = n ∧ st'.sl ct = .c (.int .i64 k) ∧ st'.sl lt = .c (.int .i64 len)
        | .exit id => if id = id1 then I (k + 1) st' ∧ st'.n = n ∧ st'.sl ct = .c (.int .i64 k) ∧ st'.sl lt = .c (.int .i64 len) else if id = id0 then Q .normal st' else Q (.exit id) st'
        | e => Q e st'))
    (hend : ∀ st, I len st → st.n = n → Q .normal st) :
    Tri P E (.block id0 (.loop (.seq (.region r1 ops1 false) (.seq (.cond (.tmp tst) .skip (.exit id0)) (.seq (.block id1 body) (.region r2 ops2 false)))))) st Q := by
  obtain ⟨n1, n2, n3, n4, n5, n6, n7, n8⟩ := hne
  refine Tri.block (Tri.loop (fun m st => ∃ k : Nat, m = len - k ∧ k ≤ len ∧ I k st ∧ st.n = n ∧ st.sl ct = .c (.int .i64 k) ∧ st.sl lt = .c (.int .i64 len)) len ⟨0, by omega, by omega, h0, hn, by simpa using hc, hl⟩ ?_)
  rintro m st ⟨k, rfl, hk, hi, hn, hc, hl⟩
  refine Tri.seq fun K1 hK1 => Tri.region ?_
  rw [h1]
  simp [hc, hl, hn, n6]
  apply hK1
  refine Tri.seq fun K2 hK2 => ?_
  refine Tri.cond (t := decide (k < len)) (by simp [upd]) (fun ht => ?_) (fun ht => ?_)
  · have hlt : k < len := by simpa using ht
    refine Tri.skip ?_
    apply hK2
    refine Tri.seq fun K3 hK3 => Tri.block ?_
    have hi' := hI k st tst (.c (.bool (decide (k < len)))) (.inl rfl) hi
    have hb' := hb k _ hlt hi' (by simpa using hn) (by simp [upd, n1.symm, hc]) (by simp [upd, n2.symm, hl])
    rw [show st.put (some tst) (.c (.bool (decide (k < len)))) = { n := n, sl := upd st.sl tst (.c (.bool (decide (k < len)))), bx := st.bx, rw := st.rw } by simp [hn]] at hb'
    refine hb'.mono fun e st' hq => ?_
    have go : I (k + 1) st' ∧ st'.n = n ∧ st'.sl ct = .c (.int .i64 k) ∧ st'.sl lt = .c (.int .i64 len) → K3 st' := by
      rintro ⟨g1, g2, g3, g4⟩
      apply hK3
      refine Tri.region ?_
      rw [h2]
      simp [g3, g2, n7, n8, upd, wrap_succ (show k < 4611686018427387904 by omega)]
      refine ⟨len - (k + 1), by omega, k + 1, rfl, by omega, ?_, by simp, by simp [n4.symm, n3.symm, g4]⟩
      have a1 := hI (k + 1) st' inc (.c (.int .i64 (k + 1))) (.inr (.inl rfl)) g1
      have a2 := hI (k + 1) _ ct (.c (.int .i64 (k + 1))) (.inr (.inr rfl)) a1
      simpa [upd, g2] using a2
    cases e with
    | normal => exact go hq
    | exit id =>
      simp only at hq
      simp only [blockS]
      split
      · rename_i e; rw [if_pos e] at hq; exact go hq
      · rename_i e
        rw [if_neg e] at hq
        simp only [thenS, blockS]
        exact hq
    | _ => exact hq
  · have hkk : k = len := by simp at ht; omega
    subst hkk
    refine Tri.exit ?_
    simp only [thenS, blockS, if_true]
    have hi' := hI k st tst (.c (.bool (decide (k < k)))) (.inl rfl) hi
    have := hend _ hi' (by simpa using hn)
    simpa [hn] using this
end Go.Vm
end
