/- Lemmas for the statements of this seat: VmA VmB VmBE VmKey VmC VmD VmE VmF VmG VmH. -/
import Derived.WalkKit
import Derived.Laws.AppendOwn
import Derived.Laws.OwnMore
import Derived.Below
import Derived.WalkSpells
import Derived.Laws.StructEq
import Derived.Laws.BytesString
import Derived.MapKept
import Derived.Laws.Pointers
import Derived.Great.FillDense
set_option linter.all false
section
namespace Go.Vm

/-! ## Abstract cells and values -/
inductive C where
  | any
  | und
  | int (k : IntKind) (n : Int)
  | bool (b : Bool)
  | str (s : ByteArray)
  | sl (nil : Bool) (n : Nat) (own : Option (Nat × Nat)) (es : List (List C))
  | box (key b off : Nat)
  | el (n : Nat) (es : List (List C)) (i off : Nat)
  | nilp
  | fn (f : FuncId) (caps : List C)
  | nilf
  | room (n key b : Nat)
  | map (key b : Nat)
  | mapn
  | mapc (kag : Bool) (nk : Nat) (vag : Bool) (ents : List (List C))
  | iter (mk mb n : Nat) (seen : List Nat)
  | ms (n key b i len : Nat)
  deriving Inhabited

inductive V where
  | c (x : C)
  | agg (l : List C)
  | tup (l : List V)
  deriving Inhabited

/-- Known cells are the value of one cell. -/
def C.known : C → Bool
  | .any | .und => false
  | .mapc .. => false
  | .iter .. => false
  | _ => true

/-! ## How a value reads -/
/-- A concrete value reads as an abstract cell; `F`: the cells of memory that are data and are not written any more. -/
inductive CR (F : Nat → Nat → Prop) (w : World) : Value → C → Prop
  | any (v : Value) : CR F w v .any
  | und : CR F w undef .und
  | int (k : IntKind) (n : Int) : CR F w (.int k n) (.int k n)
  | bool (b : Bool) : CR F w (.bool b) (.bool b)
  | str (s : ByteArray) : CR F w (.string s) (.str s)
  | nil (n : Nat) (own : Option (Nat × Nat)) : CR F w (.slice none 0 0) (.sl true n own [])
  | sl (b off cap n : Nat) (own : Option (Nat × Nat)) (es : List (List C)) (cells : List Value) (hle : es.length ≤ cap) (hn : ∀ e ∈ es, e.length = n)
      (hlen : cells.length = es.length * n) (hF : ∀ k, k < cells.length → F b (off + k)) (hc : ∀ k, k < cells.length → w.cell? ⟨b, off + k, none⟩ = cells[k]?)
      (h1 : ∀ v ∈ cells, v.oneCell' = true) (hr : ∀ k, k < cells.length → CR F w (cells.getD k undef) (es.flatten.getD k .any))
      (ho : ∀ key b', own = some (key, b') → b' = b ∧ off = 0 ∧ ∃ e, w.shape? b = some (e, cap * n)) : CR F w (.slice (some ⟨b, off, none⟩) es.length cap) (.sl false n own es)
  | box (key b o : Nat) : CR F w (.pointer (some ⟨b, o, none⟩)) (.box key b o)
  | el (b off n : Nat) (es : List (List C)) (i o : Nat) (cells : List Value) (hn : ∀ e ∈ es, e.length = n)
      (hlen : cells.length = es.length * n) (hF : ∀ k, k < cells.length → F b (off + k)) (hc : ∀ k, k < cells.length → w.cell? ⟨b, off + k, none⟩ = cells[k]?)
      (h1 : ∀ v ∈ cells, v.oneCell' = true) (hr : ∀ k, k < cells.length → CR F w (cells.getD k undef) (es.flatten.getD k .any)) : CR F w (.pointer (some ⟨b, off + i * n + o, none⟩)) (.el n es i o)
  | nilp : CR F w (.pointer none) .nilp
  | fn (f : FuncId) (caps : List C) (vs : List Value) (hl : vs.length = caps.length) (hr : ∀ k, k < caps.length → CR F w (vs.getD k undef) (caps.getD k .any)) :
      CR F w (.func (.func f) #[] vs.toArray) (.fn f caps)
  | nilf : CR F w .nilFunc .nilf
  | room (b cap m n key : Nat) (e : TypeId) (hm : m ≤ cap) (hs : w.shape? b = some (e, cap * n)) : CR F w (.slice (some ⟨b, 0, none⟩) m cap) (.room n key b)
  | map (key b : Nat) : CR F w (.map (some b)) (.map key b)
  | mapn : CR F w (.map none) .mapn
  | ms (b o cap n key i len : Nat) (hle : len ≤ cap) (ho : len = 0 ∨ o = i * n) : CR F w (.slice (some ⟨b, o, none⟩) len cap) (.ms n key b i len)

/-- From w to w' no data cell has turned, and no block has changed its shape. -/
structure Stp (F : Nat → Nat → Prop) (w w' : World) : Prop where
  cell : ∀ b o, F b o → w'.cell? ⟨b, o, none⟩ = w.cell? ⟨b, o, none⟩
  shape : ∀ b s, w.shape? b = some s → w'.shape? b = some s

theorem Stp.refl (F : Nat → Nat → Prop) (w : World) : Stp F w w := ⟨fun _ _ _ => rfl, fun _ _ h => h⟩
theorem Stp.trans {F F' : Nat → Nat → Prop} {w w' w'' : World} (h : Stp F w w') (k : Stp F' w' w'') (hF : ∀ b o, F b o → F' b o) : Stp F w w'' :=
  ⟨fun b o hb => (k.cell b o (hF b o hb)).trans (h.cell b o hb), fun b s hs => k.shape b s (h.shape b s hs)⟩

theorem CR.mono {F F' : Nat → Nat → Prop} {w w' : World} {v : Value} {c : C} (h : CR F w v c) (hs : Stp F w w') (hF : ∀ b o, F b o → F' b o) : CR F' w' v c := by
  induction h with
  | any v => exact .any v
  | und => exact .und
  | int k n => exact .int k n
  | bool b => exact .bool b
  | str s => exact .str s
  | nil n own => exact .nil n own
  | sl b off cap n own es cells hle hn hlen hF' hc h1 hr ho ih =>
    exact .sl b off cap n own es cells hle hn hlen (fun k hk => hF _ _ (hF' k hk)) (fun k hk => (hs.cell _ _ (hF' k hk)).trans (hc k hk)) h1 ih
      (fun key b' e => let ⟨h1, h2, e, h3⟩ := ho key b' e; ⟨h1, h2, e, hs.shape _ _ h3⟩)
  | box key b o => exact .box key b o
  | el b off n es i o cells hn hlen hF' hc h1 hr ih =>
    exact .el b off n es i o cells hn hlen (fun k hk => hF _ _ (hF' k hk)) (fun k hk => (hs.cell _ _ (hF' k hk)).trans (hc k hk)) h1 ih
  | nilp => exact .nilp
  | fn f caps vs hl hr ih => exact .fn f caps vs hl ih
  | nilf => exact .nilf
  | room b cap m n key e hm hs' => exact .room b cap m n key e hm (hs.shape _ _ hs')
  | map key b => exact .map key b
  | mapn => exact .mapn
  | ms b o cap n key i len hle ho => exact .ms b o cap n key i len hle ho

theorem CR.oneCell {F : Nat → Nat → Prop} {w : World} {v : Value} {c : C} (h : CR F w v c) (hk : c.known = true) : v.oneCell' = true := by
  cases h <;> first | rfl | simp [C.known] at hk

inductive VR (F : Nat → Nat → Prop) (w : World) : Value → V → Prop
  | c {v : Value} {x : C} (h : CR F w v x) : VR F w v (.c x)
  | agg (vs : Array Value) (cs : List C) (hl : vs.size = cs.length) (hr : ∀ k, k < cs.length → CR F w (vs.getD k undef) (cs.getD k .any)) : VR F w (.agg vs) (.agg cs)
  | tup (vs : Array Value) (xs : List V) (hl : vs.size = xs.length) (hr : ∀ k, k < xs.length → VR F w (vs.getD k undef) (xs.getD k (.c .any))) : VR F w (.tuple vs) (.tup xs)

theorem VR.mono {F F' : Nat → Nat → Prop} {w w' : World} {v : Value} {x : V} (h : VR F w v x) (hs : Stp F w w') (hF : ∀ b o, F b o → F' b o) : VR F' w' v x := by
  induction h with
  | c h => exact .c (h.mono hs hF)
  | agg vs cs hl hr => exact .agg vs cs hl fun k hk => (hr k hk).mono hs hF
  | tup vs xs hl hr ih => exact .tup vs xs hl ih

theorem VR.any (F : Nat → Nat → Prop) (w : World) (v : Value) : VR F w v (.c .any) := .c (.any v)

/-! ## What forgets: tags of ownership -/
def C.strip : C → C
  | .sl nil n _ es => .sl nil n none es
  | .room .. => .any
  | c => c
def V.strip : V → V
  | .c x => .c x.strip
  | .agg l => .agg (l.map C.strip)
  | .tup l => .tup (l.map fun | .c x => .c x.strip | .agg l => .agg (l.map C.strip) | .tup l => .tup l)

theorem CR.strip {F : Nat → Nat → Prop} {w : World} {v : Value} {c : C} (h : CR F w v c) : CR F w v c.strip := by
  cases h with
  | nil n own => exact .nil n none
  | sl b off cap n own es cells hle hn hlen hF' hc h1 hr ho => exact .sl b off cap n none es cells hle hn hlen hF' hc h1 hr (by simp)
  | any => exact .any _
  | und => exact .und
  | int => exact .int _ _
  | bool => exact .bool _
  | str => exact .str _
  | box => exact .box _ _ _
  | el b off n es i o cells hn hlen hF' hc h1 hr => exact .el b off n es i o cells hn hlen hF' hc h1 hr
  | nilp => exact .nilp
  | fn f caps vs hl hr => exact .fn f caps vs hl hr
  | nilf => exact .nilf
  | room => exact .any _
  | map => exact .map _ _
  | mapn => exact .mapn
  | ms b o cap n key i len hle ho => exact .ms b o cap n key i len hle ho

theorem strip_any : C.strip .any = .any := rfl
theorem getD_map_strip (l : List C) (k : Nat) : (l.map C.strip).getD k .any = (l.getD k .any).strip := by
  simp only [List.getD_eq_getElem?_getD, List.getElem?_map]
  cases l[k]? <;> rfl

theorem VR.strip {F : Nat → Nat → Prop} {w : World} {v : Value} {x : V} (h : VR F w v x) : VR F w v x.strip := by
  cases h with
  | c h => exact .c h.strip
  | agg vs cs hl hr => exact .agg vs _ (by simpa using hl) fun k hk => by rw [getD_map_strip]; exact (hr k (by simpa using hk)).strip
  | tup vs xs hl hr =>
    refine .tup vs _ (by simpa using hl) fun k hk => ?_
    have hk' : k < xs.length := by simpa using hk
    have h0 := hr k hk'
    generalize vs.getD k undef = u at h0 ⊢
    simp only [List.getD_eq_getElem?_getD, List.getElem?_map, List.getElem?_eq_getElem hk', Option.map_some, Option.getD_some] at h0 ⊢
    cases hx : xs[k] with
    | c x => rw [hx] at h0; cases h0 with | c h => exact .c h.strip
    | agg l =>
      rw [hx] at h0
      cases h0 with
      | agg vs' cs hl' hr' => exact .agg vs' _ (by simpa using hl') fun j hj => by rw [getD_map_strip]; exact (hr' j (by simpa using hj)).strip
    | tup l => rw [hx] at h0; exact h0

/-! ## States -/
def upd {α : Type} (f : Nat → α) (k : Nat) (v : α) : Nat → α := fun j => if j = k then v else f j

structure St where
  n : Nat
  sl : Nat → V
  bx : Nat → Option (Nat × List C)
  rw : Nat → Option (Nat × Nat × TypeId × Nat)

def St.put (st : St) (dst : Option Tmp) (v : V) : St :=
  match dst with
  | some d => { st with sl := upd st.sl d v }
  | none => st

def cOf : Value → C
  | .bool b => .bool b
  | .int k n => .int k n
  | .string s => .str s
  | .slice none 0 0 => .sl true 0 none []
  | .pointer none => .nilp
  | .nilFunc => .nilf
  | _ => .any
def vOf : Value → V
  | .agg cs => .agg (cs.toList.map cOf)
  | v => .c (cOf v)

theorem cOf_reads (F : Nat → Nat → Prop) (w : World) (v : Value) : CR F w v (cOf v) := by
  unfold cOf
  split <;> first | exact .bool _ | exact .int _ _ | exact .str _ | exact .nil _ _ | exact .nilp | exact .nilf | exact .any _
theorem vOf_reads (F : Nat → Nat → Prop) (w : World) (v : Value) : VR F w v (vOf v) := by
  unfold vOf
  split
  · rename_i cs
    refine .agg cs _ (by simp) fun k hk => ?_
    have hk' : k < cs.size := by simpa using hk
    have := cOf_reads F w cs[k]
    simp [List.getD_eq_getElem?_getD, Array.getD, hk', this]
  · exact .c (cOf_reads F w v)

def St.ev (st : St) : Operand → V
  | .tmp t => st.sl t
  | .const v => vOf v
  | .global _ => .c .any
  | .func f => .c (.fn f [])

structure Env where
  w0 : World
  F0 : Nat → Nat → Prop
  pb : Nat → Prop

def mkV (ag : Bool) (l : List C) : Option V :=
  if ag then some (.agg l) else match l with
    | [c] => some (.c c)
    | _ => none
/-- A value reads as a part of one cell, or as a struct or an array. -/
def CellsOf (F : Nat → Nat → Prop) (w : World) (ag : Bool) (v : Value) (cs : List C) : Prop := ∃ x, mkV ag cs = some x ∧ VR F w v x ∧ cs.all C.known = true
def EntOk (F : Nat → Nat → Prop) (w : World) (kag : Bool) (nk : Nat) (vag : Bool) (i : Nat) (e : MapEntry) (c : List C) : Prop :=
  e.born = i ∧ nk ≤ c.length ∧ CellsOf F w kag e.key (c.take nk) ∧ CellsOf F w vag e.val (c.drop nk)
/-- What an object in memory holds: cells, the entries of a map (of which none was ever deleted), or an iterator over such a map. -/
inductive ObjOk (F : Nat → Nat → Prop) (w : World) (b : Nat) : List C → Prop
  | cells (cs : List C) (cells : Array Value) (T : TypeId) (h : w.heap[b]? = some (.cells cells T (0, 0))) (hl : cs.length ≤ cells.size) (hr : ∀ k, k < cs.length → CR F w (cells.getD k undef) (cs.getD k .any)) : ObjOk F w b cs
  | map (kag : Bool) (nk : Nat) (vag : Bool) (ents : List (List C)) (es : Array MapEntry) (h : w.heap[b]? = some (.map es es.size)) (hl : es.size = ents.length)
      (hr : ∀ i e c, es[i]? = some e → ents[i]? = some c → EntOk F w kag nk vag i e c) : ObjOk F w b [.mapc kag nk vag ents]
  | iter (mk mb n : Nat) (seen : List Nat) (h : w.heap[b]? = some (.mapIter (some mb) n seen.toArray n)) : ObjOk F w b [.iter mk mb n seen]
def BoxOk (E : Env) (F : Nat → Nat → Prop) (w : World) (b : Nat) (cs : List C) : Prop :=
  ObjOk F w b cs ∧ (E.w0.heap.size ≤ b ∨ E.pb b) ∧ ∀ o, ¬ F b o
theorem CellsOf.mono {F F' : Nat → Nat → Prop} {w w' : World} {ag : Bool} {v : Value} {cs : List C} (h : CellsOf F w ag v cs) (hs : Stp F w w') (hF : ∀ b o, F b o → F' b o) : CellsOf F' w' ag v cs := by
  obtain ⟨x, h1, h2, h3⟩ := h
  exact ⟨x, h1, h2.mono hs hF, h3⟩
theorem ObjOk.mono {F F' : Nat → Nat → Prop} {w w' : World} {b : Nat} {cs : List C} (h : ObjOk F w b cs) (hb : w'.heap[b]? = w.heap[b]?) (hs : Stp F w w') (hF : ∀ b o, F b o → F' b o) : ObjOk F' w' b cs := by
  cases h with
  | cells cs cells T h hl hr => exact .cells cs cells T (hb.trans h) hl fun k hk => (hr k hk).mono hs hF
  | map kag nk vag ents es h hl hr =>
    exact .map kag nk vag ents es (hb.trans h) hl fun i e c he hc => ⟨(hr i e c he hc).1, (hr i e c he hc).2.1, (hr i e c he hc).2.2.1.mono hs hF, (hr i e c he hc).2.2.2.mono hs hF⟩
  | iter mk mb n seen h => exact .iter mk mb n seen (hb.trans h)
theorem ObjOk.lt {F : Nat → Nat → Prop} {w : World} {b : Nat} {cs : List C} (h : ObjOk F w b cs) : b < w.heap.size := by
  cases h with
  | cells cs cells T h => exact (Array.getElem?_eq_some_iff.1 h).1
  | map kag nk vag ents es h => exact (Array.getElem?_eq_some_iff.1 h).1
  | iter mk mb n seen h => exact (Array.getElem?_eq_some_iff.1 h).1
/-- A map or an iterator. -/
def C.isO : C → Bool
  | .mapc .. => true
  | .iter .. => true
  | _ => false
def isObj : List C → Bool
  | [x] => x.isO
  | _ => false
theorem ObjOk.plain {F : Nat → Nat → Prop} {w : World} {b : Nat} {cs : List C} (h : ObjOk F w b cs) (ho : isObj cs = false) :
    ∃ cells T, w.heap[b]? = some (.cells cells T (0, 0)) ∧ cs.length ≤ cells.size ∧ ∀ k, k < cs.length → CR F w (cells.getD k undef) (cs.getD k .any) := by
  cases h with
  | cells cs cells T h hl hr => exact ⟨cells, T, h, hl, hr⟩
  | map => cases ho
  | iter => cases ho
def RowOk (E : Env) (F : Nat → Nat → Prop) (w : World) (b len e n : Nat) : Prop :=
  ∃ cells cap, w.heap[b]? = some (.cells cells e (0, 0)) ∧ cells.size = cap * n ∧ len ≤ cap ∧ cap ≤ maxLen ∧ (E.w0.heap.size ≤ b ∨ E.pb b) ∧ ∀ o, F b o → o < len * n

structure Rel (E : Env) (F : Nat → Nat → Prop) (st : St) (a : Act) (w : World) : Prop where
  defers : a.defers = []
  size : a.tmps.size = st.n
  os : w.os = E.w0.os
  tape : w.tape = E.w0.tape
  output : w.output = E.w0.output
  hsz : E.w0.heap.size ≤ w.heap.size
  old : ∀ k, k < E.w0.heap.size → ¬ E.pb k → w.heap[k]? = E.w0.heap[k]?
  stp : Stp E.F0 E.w0 w
  f0 : ∀ b o, E.F0 b o → F b o
  fn : ∀ b o, F b o → E.F0 b o ∨ E.w0.heap.size ≤ b ∨ E.pb b
  fs : ∀ b o, F b o → b < w.heap.size
  slots : ∀ t, VR F w (a.tmps.getD t undef) (st.sl t)
  boxes : ∀ k b cs, st.bx k = some (b, cs) → BoxOk E F w b cs
  boxd : ∀ k k' b cs cs', st.bx k = some (b, cs) → st.bx k' = some (b, cs') → k = k'
  rows : ∀ k b len e n, st.rw k = some (b, len, e, n) → RowOk E F w b len e n
  rowd : ∀ k k' b l e n l' e' n', st.rw k = some (b, l, e, n) → st.rw k' = some (b, l', e', n') → k = k'
  boxrow : ∀ k k' b cs l e n, st.bx k = some (b, cs) → st.rw k' = some (b, l, e, n) → False

theorem Rel.ev {E : Env} {F : Nat → Nat → Prop} {st : St} {a : Act} {w : World} (h : Rel E F st a w) (x : Operand) : VR F w (a.eval x) (st.ev x) := by
  cases x with
  | tmp t => exact h.slots t
  | const v => exact vOf_reads F w v
  | global g => exact .c (.any _)
  | func f => exact .c (.fn f [] [] rfl (by simp))

theorem tmps_put (a : Act) (d : Nat) (v : Value) (t : Nat) (h : d < a.tmps.size) : (a.put (some d) v).tmps.getD t undef = if t = d then v else a.tmps.getD t undef := by
  simp only [Act.put, Array.getD_eq_getD_getElem?, Array.getElem?_setIfInBounds]
  split
  · rename_i e; subst e; simp_all
  · rename_i e; rw [if_neg (fun e' => e e'.symm)]

theorem put_defers (a : Act) (d : Option Tmp) (v : Value) : (a.put d v).defers = a.defers := by cases d <;> rfl
theorem put_size (a : Act) (d : Option Tmp) (v : Value) : (a.put d v).tmps.size = a.tmps.size := by cases d <;> simp [Act.put]

def dstOk (st : St) : Option Tmp → Bool
  | some d => decide (d < st.n)
  | none => true

theorem Rel.put {E : Env} {F : Nat → Nat → Prop} {st : St} {a : Act} {w : World} (h : Rel E F st a w) {dst : Option Tmp} {v : Value} {x : V} (hv : VR F w v x) (hd : dstOk st dst = true) :
    Rel E F (st.put dst x) (a.put dst v) w := by
  cases dst with
  | none => exact h
  | some d =>
    have hd' : d < a.tmps.size := by rw [h.size]; simpa [dstOk] using hd
    exact { h with
      defers := by rw [put_defers]; exact h.defers
      size := by rw [put_size]; exact h.size
      slots := fun t => by
        rw [tmps_put a d v t hd']
        simp only [St.put, upd]
        split
        · exact hv
        · exact h.slots t }

end Go.Vm
end
section
namespace Go.Vm

/-! ## What an operation needs to know of types (closed facts of a program) -/
def tSize (P : Program) (t : TypeId) : Option Nat := (P.info? t).map (·.size)
def tAgg (P : Program) (t : TypeId) : Option Bool := (P.underlying t).map fun | .struct _ | .array _ _ => true | _ => false
def fOff (P : Program) (s f : Nat) : Option Nat :=
  match P.underlying s with
  | some (.struct fs) => match fs[f]? with
    | some fd => match tSize P fd.type with
      | some (_ + 1) => some fd.offset
      | _ => none
    | none => none
  | _ => none
/-- A slice type: its elements' type and size. -/
def sElem (P : Program) (t : TypeId) : Option (TypeId × Nat) :=
  match P.underlying t with
  | some (.slice e) => (tSize P e).map fun n => (e, n)
  | _ => none
/-- An array type: its length, its elements' type and size. -/
def aInfo (P : Program) (t : TypeId) : Option (Nat × TypeId × Nat) :=
  match P.underlying t with
  | some (.array len e) => (tSize P e).map fun n => (len, e, n)
  | _ => none

theorem run_sizeOf {P : Program} {t n : Nat} (h : tSize P t = some n) (w : World) : (sizeOf t).run P w = .ok n w := by
  unfold tSize at h
  cases hi : P.info? t with
  | none => simp [hi] at h
  | some i => simp [hi] at h; simp [sizeOf, typeInfo, hi, h]

theorem run_isAgg {P : Program} {t : Nat} {ag : Bool} (h : tAgg P t = some ag) (w : World) : (isAgg t).run P w = .ok ag w := by
  unfold tAgg at h
  cases hu : P.underlying t with
  | none => simp [hu] at h
  | some d =>
    simp [hu] at h
    subst h
    simp only [isAgg, Sem.run_bind, run_underlying hu, Result.andThen_ok]
    cases d <;> rfl

theorem Addr.add_none (b o k : Nat) : (⟨b, o, none⟩ : Addr).add k = ⟨b, o + k, none⟩ := by
  unfold Addr.add
  split
  · rename_i h; subst h; rfl
  · rfl

/-! ## Lists of equal parts -/
theorem length_flatten_uniform {α : Type} {n : Nat} : ∀ (es : List (List α)), (∀ e ∈ es, e.length = n) → es.flatten.length = es.length * n := by
  intro es
  induction es with
  | nil => intro _; simp
  | cons e es ih =>
    intro h
    simp only [List.flatten_cons, List.length_append, List.length_cons]
    rw [ih fun x hx => h x (List.mem_cons_of_mem _ hx), h e (List.mem_cons_self ..), Nat.add_mul, Nat.one_mul, Nat.add_comm]

theorem getElem?_flatten_uniform {α : Type} {n : Nat} : ∀ (es : List (List α)) (i j : Nat) (e : List α), (∀ e ∈ es, e.length = n) → es[i]? = some e → j < n →
    es.flatten[i * n + j]? = e[j]? := by
  intro es
  induction es with
  | nil => intro i j e _ h; simp at h
  | cons x es ih =>
    intro i j e h hi hj
    have hx : x.length = n := h x (List.mem_cons_self ..)
    cases i with
    | zero =>
      simp at hi
      subst hi
      simp only [List.flatten_cons, Nat.zero_mul, Nat.zero_add]
      rw [List.getElem?_append_left (by omega)]
    | succ i =>
      simp only [List.getElem?_cons_succ] at hi
      simp only [List.flatten_cons]
      rw [List.getElem?_append_right (by rw [hx, Nat.add_mul]; omega), hx]
      rw [show (i + 1) * n + j - n = i * n + j by rw [Nat.add_mul]; omega]
      exact ih i j e (fun y hy => h y (List.mem_cons_of_mem _ hy)) hi hj

theorem getD_eq {α : Type} (l : List α) (k : Nat) (d : α) : l.getD k d = (l[k]?).getD d := List.getD_eq_getElem?_getD ..

/-! ## Loads -/
def evLoad (P : Program) (bx : Nat → Option (Nat × List C)) (t : TypeId) (x : V) : Option V :=
  match tAgg P t, tSize P t with
  | some ag, some n =>
    match x with
    | .c (.box k b o) =>
      match bx k with
      | some (b', cs) => if isObj cs = false ∧ b = b' ∧ o + n ≤ cs.length then mkV ag ((cs.drop o).take n) else none
      | none => none
    | .c (.el m es i o) =>
      match es[i]? with
      | some e => if o + n ≤ m then mkV ag ((e.drop o).take n) else none
      | none => none
    | _ => none
  | _, _ => none

theorem run_loadAt {P : Program} {t n : Nat} {ag : Bool} (hag : tAgg P t = some ag) (hsz : tSize P t = some n) (w : World) (b o : Nat) (vs : List Value) (hl : vs.length = n)
    (hc : ∀ j, j < n → w.cell? ⟨b, o + j, none⟩ = vs[j]?) (h1 : ag = false → n = 1) :
    (Instr.loadAt t (.pointer (some ⟨b, o, none⟩))).run P w = .ok (if ag then .agg vs.toArray else vs.getD 0 undef) w := by
  simp only [Instr.loadAt, Instr.sureAddr, loadVar, Sem.run_bind, Sem.run_pure, Result.andThen_ok, run_isAgg hag]
  cases ag with
  | true =>
    have := run_loadCells_list (P := P) w ⟨b, o, none⟩ vs fun j v hj => by
      rw [Addr.add_none, hc j (by rw [← hl]; exact (List.getElem?_eq_some_iff.1 hj).1), hj]
    simp only [if_true, Sem.run_bind, run_sizeOf hsz, Result.andThen_ok, ← hl, this, Sem.run_pure]
  | false =>
    have hn := h1 rfl
    subst hn
    have h0 := hc 0 (by omega)
    simp only [Nat.add_zero] at h0
    have : vs[0]? = some (vs.getD 0 undef) := by rw [getD_eq, List.getElem?_eq_getElem (by omega)]; rfl
    simp only [Bool.false_eq_true, if_false, run_load, h0, this]

theorem VR_mkV {F : Nat → Nat → Prop} {w : World} {ag : Bool} {vs : List Value} {cs : List C} {x : V} (hl : vs.length = cs.length)
    (hr : ∀ k, k < cs.length → CR F w (vs.getD k undef) (cs.getD k .any)) (h : mkV ag cs = some x) :
    VR F w (if ag then .agg vs.toArray else vs.getD 0 undef) x ∧ (ag = false → cs.length = 1) := by
  unfold mkV at h
  cases ag with
  | true =>
    simp at h
    subst h
    exact ⟨.agg _ _ (by simpa using hl) (fun k hk => by simpa [Array.getD_eq_getD_getElem?, getD_eq] using hr k hk), by simp⟩
  | false =>
    simp only [Bool.false_eq_true, if_false] at h
    match cs, h with
    | [c], h =>
      cases h
      exact ⟨.c (by simpa using hr 0 (by simp)), fun _ => rfl⟩

theorem load_sound {E : Env} {F : Nat → Nat → Prop} {st : St} {a : Act} {w : World} (h : Rel E F st a w) {P : Program} {t : TypeId} {v : Value} {x y : V} (hv : VR F w v x) (hy : evLoad P st.bx t x = some y) :
    ∃ u, (Instr.loadAt t v).run P w = .ok u w ∧ VR F w u y := by
  unfold evLoad at hy
  split at hy
  · rename_i ag n hag hsz
    split at hy
    · rename_i k b o
      split at hy
      · rename_i b' cs hbx
        split at hy
        · rename_i hcond
          obtain ⟨hob, rfl, hle⟩ := hcond
          cases hv with
          | c hv =>
          cases hv
          obtain ⟨cells, T, hheap, hsize, hcr⟩ := (h.boxes k b cs hbx).1.plain hob
          have hl : ((cells.toList.drop o).take n).length = ((cs.drop o).take n).length := by simp; omega
          have hln : ((cs.drop o).take n).length = n := by simp; omega
          obtain ⟨h1, h2⟩ := VR_mkV (F := F) (w := w) (vs := (cells.toList.drop o).take n) hl (fun j hj => by
            rw [hln] at hj
            have := hcr (o + j) (by omega)
            simpa [getD_eq, List.getElem?_take, List.getElem?_drop, hj, Array.getD_eq_getD_getElem?] using this) hy
          refine ⟨_, run_loadAt hag hsz w b o _ (hl.trans hln) (fun j hj => ?_) (fun e => by rw [← hln]; exact h2 e), h1⟩
          rw [cell_of_row w b (o + j) cells T (0, 0) hheap]
          simp [List.getElem?_drop, hj]
        · cases hy
      · cases hy
    · rename_i m es i o
      split at hy
      · rename_i e hei
        split at hy
        · rename_i hle
          cases hv with
          | c hv =>
          cases hv with
          | el b off _ _ _ _ cells hn hlen hF hc h1c hr =>
          have hil : i < es.length := (List.getElem?_eq_some_iff.1 hei).1
          have hem : e.length = m := hn e (List.mem_of_getElem? hei)
          have hbound : ∀ j, j < n → i * m + (o + j) < cells.length := by
            intro j hj
            rw [hlen]
            calc i * m + (o + j) < i * m + m := by omega
              _ = (i + 1) * m := by rw [Nat.add_mul, Nat.one_mul]
              _ ≤ es.length * m := Nat.mul_le_mul_right _ hil
          have hb2 : i * m + (o + n) ≤ cells.length := by
            by_cases h0 : n = 0
            · subst h0
              rw [hlen]
              calc i * m + (o + 0) ≤ i * m + m := by omega
                _ = (i + 1) * m := by rw [Nat.add_mul, Nat.one_mul]
                _ ≤ es.length * m := Nat.mul_le_mul_right _ hil
            · have := hbound (n - 1) (by omega); omega
          have hl : ((cells.drop (i * m + o)).take n).length = ((e.drop o).take n).length := by simp; omega
          have hln : ((e.drop o).take n).length = n := by simp; omega
          obtain ⟨h1, h2⟩ := VR_mkV (F := F) (w := w) (vs := (cells.drop (i * m + o)).take n) hl (fun j hj => by
            rw [hln] at hj
            have := hr (i * m + (o + j)) (hbound j hj)
            rw [getD_eq es.flatten, getElem?_flatten_uniform es i (o + j) e hn hei (by omega)] at this
            simpa [getD_eq, List.getElem?_take, List.getElem?_drop, hj, Nat.add_assoc] using this) hy
          refine ⟨_, run_loadAt hag hsz w b (off + i * m + o) _ (hl.trans hln) (fun j hj => ?_) (fun e => by rw [← hln]; exact h2 e), h1⟩
          rw [show off + i * m + o + j = off + (i * m + (o + j)) by omega, hc _ (hbound j hj)]
          simp [List.getElem?_drop, hj, Nat.add_assoc]
        · cases hy
      · cases hy
    · cases hy
  · cases hy

/-! ## Integers -/
def bitsV (op : BinOp) (k : IntKind) (x y : Int) : Int :=
  let a := BitVec.ofInt k.bits x
  let b := BitVec.ofInt k.bits y
  match op with
  | .and => k.wrap (a &&& b).toNat
  | .or => k.wrap (a ||| b).toNat
  | .xor => k.wrap (a ^^^ b).toNat
  | _ => k.wrap (a &&& ~~~b).toNat

def intV (op : BinOp) (k : IntKind) (x y : Int) : Option C :=
  match op with
  | .add => some (.int k (k.wrap (x + y)))
  | .sub => some (.int k (k.wrap (x - y)))
  | .mul => some (.int k (k.wrap (x * y)))
  | .quo => if y = 0 then none else some (.int k (k.wrap (x.tdiv y)))
  | .rem => if y = 0 then none else some (.int k (x.tmod y))
  | .and | .or | .xor | .andNot => some (.int k (bitsV op k x y))
  | .eql => some (.bool (x == y))
  | .neq => some (.bool (x != y))
  | .lss => some (.bool (decide (x < y)))
  | .leq => some (.bool (decide (x ≤ y)))
  | .gtr => some (.bool (decide (y < x)))
  | .geq => some (.bool (decide (y ≤ x)))
  | .shl => if y < 0 then none else some (.int k (k.wrap (x * 2 ^ (min y.toNat k.bits))))
  | .shr => if y < 0 then none else some (.int k (x.fdiv (2 ^ (min y.toNat k.bits))))

def strV (op : BinOp) (x y : ByteArray) : Option C :=
  match op with
  | .add => if ((x.size + y.size : Nat) : Int) > IntKind.i64.max then none else some (.str (x ++ y))
  | .eql => some (.bool (x.toList == y.toList))
  | .neq => some (.bool (!(x.toList == y.toList)))
  | _ => none

def isTy (P : Program) (t : TypeId) : Nat :=
  match P.underlying t with
  | some .bool => 1
  | some (.slice _) => 2
  | some (.struct _) => 3
  | some (.array ..) => 4
  | some (.int .u8) => 5
  | some .string => 6
  | some (.int .i64) => 7
  | some (.int _) => 8
  | _ => 0

end Go.Vm
end
section
namespace Go.Vm

/-! ## '==' of structs and arrays whose leaves are integers -/
def eqPlan (P : Program) : Nat → TypeId → Nat → Option (List Nat)
  | 0, _, _ => none
  | d + 1, t, off => match P.underlying t with
    | some (.int _) => if tSize P t = some 1 then some [off] else none
    | some (.struct fs) => if P.stoodInHeld t then none else fs.toList.foldr (fun f acc =>
        if f.name ≠ "_" then match tSize P f.type, tSize P t with
          | some n, some m => if f.offset + n ≤ m then match eqPlan P d f.type (off + f.offset), acc with
            | some a, some r => some (a ++ r)
            | _, _ => none
            else none
          | _, _ => none
        else acc) (some [])
    | some (.array len e) => match tSize P e, tSize P t with
      | some n, some m => if len * n ≤ m then (List.range len).foldr (fun i acc => match eqPlan P d e (off + i * n), acc with
          | some a, some r => some (a ++ r)
          | _, _ => none) (some [])
        else none
      | _, _ => none
    | _ => none

/-- The leaves that '==' looks at. -/
def eqT (P : Program) (t : TypeId) : Option (List Nat) := if P.eqGuardType P.depth t then none else eqPlan P 64 t 0

def planV (cs ds : List C) : List Nat → Option Bool
  | [] => some true
  | k :: r => match cs.getD k .any, ds.getD k .any with
    | .int i a, .int j b => if i = j then (planV cs ds r).map fun x => (a == b) && x else none
    | _, _ => none

theorem planV_append (cs ds : List C) : ∀ (p q : List Nat) (b : Bool), planV cs ds (p ++ q) = some b → ∃ x y, planV cs ds p = some x ∧ planV cs ds q = some y ∧ b = (x && y)
  | [], q, b, h => ⟨true, b, rfl, h, by simp⟩
  | k :: r, q, b, h => by
    simp only [List.cons_append, planV] at h ⊢
    split at h
    · split at h
      · obtain ⟨z, hz, rfl⟩ := Option.map_eq_some_iff.1 h
        obtain ⟨x, y, h1, h2, rfl⟩ := planV_append cs ds r q z hz
        rename_i hij
        exact ⟨_, y, by rw [if_pos hij, h1]; rfl, h2, by simp [Bool.and_assoc]⟩
      · cases h
    · cases h

section
variable {F : Nat → Nat → Prop} {w : World} {P : Program}

def EqRel (F : Nat → Nat → Prop) (w : World) (xs : Array Value) (cs : List C) (off n : Nat) : Prop := n ≤ xs.size ∧ ∀ k, k < n → CR F w (xs.getD k undef) (cs.getD (off + k) .any)

theorem EqRel.part {xs : Array Value} {cs : List C} {off n o m : Nat} (h : EqRel F w xs cs off n) (hm : o + m ≤ n) : EqRel F w (xs.extract o (o + m)) cs (off + o) m := by
  have h1 := h.1
  refine ⟨by simp; omega, fun k hk => ?_⟩
  have := h.2 (o + k) (by omega)
  rw [← Nat.add_assoc] at this
  rw [Array.getD_eq_getD_getElem?] at this ⊢
  rw [Array.getElem?_extract]
  rw [if_pos (by omega)]
  exact this

theorem run_partEq {t n : Nat} {ag : Bool} (hag : tAgg P t = some ag) (hn : tSize P t = some n) (xs : Array Value) (o : Nat) (h : o + n ≤ xs.size) (h1 : ag = false → n = 1) :
    (part t xs o).run P w = .ok (if ag then .agg (xs.extract o (o + n)) else (xs.extract o (o + n)).getD 0 undef) w := by
  simp only [part, Sem.run_bind, run_isAgg hag, Result.andThen_ok]
  cases ag with
  | true => simp only [if_true, Sem.run_bind, run_sizeOf hn, Result.andThen_ok, Sem.run_pure]
  | false =>
    have hn1 := h1 rfl
    subst hn1
    have ho : o < xs.size := by omega
    simp only [Bool.false_eq_true, if_false, Array.getElem?_eq_getElem ho, Sem.run_pure]
    rw [Array.getD_eq_getD_getElem?, Array.getElem?_extract, if_pos (by omega)]
    simp [Array.getElem?_eq_getElem ho]

theorem run_eqArray {d len e n t : Nat} (ht : P.underlying t = some (.array len e)) (hn : tSize P e = some n) (xs ys : Array Value) :
    (Op.equalIn (d + 1) t (.agg xs) (.agg ys)).run P w = ((List.range len).foldr (fun i (k : Sem Bool) => do
      let a ← part e xs (i * n)
      let b ← part e ys (i * n)
      let r ← Op.equalIn d e a b
      if (!r) = true then pure false else k) (pure true)).run P w := by
  simp only [Op.equalIn, Sem.run_bind, run_underlying ht, Result.andThen_ok, run_sizeOf hn]
  have e0 : ∀ (f : Nat → Option Bool × Unit → Sem (ForInStep (Option Bool × Unit))) (i : Option Bool × Unit), (forIn [:len] i f : Sem _) = forIn (List.range len) i f := fun f i => by
    rw [Std.Legacy.Range.forIn_eq_forIn_range']
    simp [Std.Legacy.Range.size, List.range_eq_range']
  rw [e0]
  generalize List.range len = l
  induction l generalizing w with
  | nil => simp
  | cons f fs ih =>
    simp only [List.forIn_cons, List.foldr_cons, Sem.run_bind, Sem.run_ite]
    generalize (part e xs (f * n)).run P w = r1
    cases r1 with
    | ok a w1 =>
      simp only [Result.andThen_ok]
      generalize (part e ys (f * n)).run P w1 = r2
      cases r2 with
      | ok b w2 =>
        simp only [Result.andThen_ok]
        generalize (Op.equalIn d e a b).run P w2 = r3
        cases r3 with
        | ok r w3 =>
          cases r
          · simp only [Result.andThen_ok, Bool.not_false, if_true, Sem.run_pure]
          · simp only [Result.andThen_ok, Bool.not_true, Bool.false_eq_true, if_false, Sem.run_pure]
            exact ih
        | halt x w3 => simp [Result.andThen]
      | halt x w2 => simp [Result.andThen]
    | halt x w1 => simp [Result.andThen]

theorem eqPlan_sound : ∀ (d0 : Nat) (t off : Nat) (pl : List Nat), eqPlan P d0 t off = some pl → ∃ ag n, tAgg P t = some ag ∧ tSize P t = some n ∧ (ag = false → n = 1) ∧
    ∀ (d : Nat), d0 ≤ d → ∀ (xs ys : Array Value) (cs ds : List C) (b : Bool), EqRel F w xs cs off n → EqRel F w ys ds off n → planV cs ds pl = some b →
      (Op.equalIn d t (if ag then .agg xs else xs.getD 0 undef) (if ag then .agg ys else ys.getD 0 undef)).run P w = .ok b w := by
  intro d0
  induction d0 with
  | zero => intro t off pl h; cases h
  | succ d0 ih =>
    intro t off pl h
    unfold eqPlan at h
    split at h
    · rename_i k hu
      split at h
      · rename_i hs
        cases h
        refine ⟨false, 1, by simp [tAgg, hu], hs, fun _ => rfl, fun d hd xs ys cs ds b hx hy hp => ?_⟩
        have hx0 := hx.2 0 (by omega)
        have hy0 := hy.2 0 (by omega)
        simp only [Nat.add_zero] at hx0 hy0
        simp only [planV] at hp
        split at hp
        · rename_i i a j c h1 h2
          split at hp
          · rename_i hij
            subst hij
            simp only [Option.map_some, Option.some.injEq, Bool.and_true] at hp
            subst hp
            rw [h1] at hx0
            rw [h2] at hy0
            simp only [Bool.false_eq_true, if_false]
            generalize xs.getD 0 undef = u at hx0
            generalize ys.getD 0 undef = v at hy0
            cases hx0
            cases hy0
            match d, hd with
            | d + 1, _ => exact run_equalIn_int w d t i k a c hu
          · cases hp
        · cases hp
      · cases h
    · rename_i fs hu
      split at h
      · cases h
      · rename_i hst
        have hst : P.stoodInHeld t = false := by simpa using hst
        have hf : P.fieldsOf t = fs := by simp [Program.fieldsOf, hu]
        cases hsz : tSize P t with
        | none =>
          exfalso
          unfold tSize at hsz
          cases hi : P.info? t with
          | none => simp [Program.underlying, hi] at hu
          | some i => simp [hi] at hsz
        | some n =>
          refine ⟨true, n, by simp [tAgg, hu], rfl, fun e => (by cases e), fun d hd xs ys cs ds b hx hy hp => ?_⟩
          match d, hd with
          | d + 1, hd =>
            simp only [if_true]
            rw [run_equalIn_struct w d t xs ys (by rw [hf]; exact hu) hst, hf]
            rw [hsz] at h
            generalize fs.toList = fl at h
            clear hf hu
            induction fl generalizing pl b with
            | nil =>
              cases h
              simp only [planV, Option.some.injEq] at hp
              subst hp
              simp [Op.eqFields]
            | cons f fl ihf =>
              simp only [List.foldr_cons] at h
              simp only [Op.eqFields]
              split at h
              · rename_i hname
                rw [if_pos hname]
                split at h
                · rename_i m n' hm hn'
                  cases hn'
                  split at h
                  · rename_i hle
                    split at h
                    · rename_i a r ha hr
                      cases h
                      obtain ⟨x, y, hpx, hpy, rfl⟩ := planV_append cs ds a r b hp
                      obtain ⟨ag, m', hag, hm', hag1, hrun⟩ := ih f.type (off + f.offset) a ha
                      rw [hm] at hm'; cases hm'
                      have hx' := hx.part hle
                      have hy' := hy.part hle
                      have := hrun d (by omega) _ _ cs ds x hx' hy' hpx
                      simp only [Sem.run_bind]
                      rw [run_partEq hag hm xs f.offset (by have := hx.1; omega) hag1]
                      simp only [Result.andThen_ok]
                      rw [run_partEq hag hm ys f.offset (by have := hy.1; omega) hag1]
                      simp only [Result.andThen_ok]
                      rw [this]
                      simp only [Result.andThen_ok]
                      cases x
                      · simp
                      · simp only [Bool.not_true, Bool.false_eq_true, if_false, Bool.true_and]
                        exact ihf r y hpy hr
                    · cases h
                  · cases h
                · cases h
              · rename_i hname
                rw [if_neg hname]
                exact ihf pl b hp h
    · rename_i len e hu
      split at h
      · rename_i m n hm hn
        split at h
        · rename_i hle
          refine ⟨true, n, by simp [tAgg, hu], hn, fun e => (by cases e), fun d hd xs ys cs ds b hx hy hp => ?_⟩
          match d, hd with
          | d + 1, hd =>
            simp only [if_true]
            rw [run_eqArray hu hm]
            have hall : ∀ i ∈ List.range len, i * m + m ≤ n := fun i hi => by
              have := List.mem_range.1 hi
              have : (i + 1) * m ≤ len * m := Nat.mul_le_mul_right m this
              rw [Nat.add_mul, Nat.one_mul] at this
              omega
            generalize List.range len = l at h hall
            clear hu hle
            induction l generalizing pl b with
            | nil =>
              cases h
              simp only [planV, Option.some.injEq] at hp
              subst hp
              simp
            | cons i l ihl =>
              simp only [List.foldr_cons] at h ⊢
              split at h
              · rename_i a r ha hr
                cases h
                obtain ⟨x, y, hpx, hpy, rfl⟩ := planV_append cs ds a r b hp
                obtain ⟨ag, m', hag, hm', hag1, hrun⟩ := ih e (off + i * m) a ha
                rw [hm] at hm'; cases hm'
                have hle := hall i (List.mem_cons_self ..)
                have hx' := hx.part hle
                have hy' := hy.part hle
                have := hrun d (by omega) _ _ cs ds x hx' hy' hpx
                simp only [Sem.run_bind]
                rw [run_partEq hag hm xs (i * m) (by have := hx.1; omega) hag1]
                simp only [Result.andThen_ok]
                rw [run_partEq hag hm ys (i * m) (by have := hy.1; omega) hag1]
                simp only [Result.andThen_ok]
                rw [this]
                simp only [Result.andThen_ok]
                cases x
                · simp
                · simp only [Bool.not_true, Bool.false_eq_true, if_false, Bool.true_and]
                  exact ihl r y hpy hr (fun j hj => hall j (List.mem_cons_of_mem _ hj))
              · cases h
        · cases h
      · cases h
    · cases h
end
end Go.Vm
end
section
namespace Go.Vm
section
variable {F : Nat → Nat → Prop} {w : World} {P : Program}

/-! ## Keys of maps -/
/-- Values of such a type may be keys: nothing in them can panic. -/
def chkT (P : Program) : Nat → TypeId → Bool
  | 0, _ => false
  | d + 1, t =>
    match P.underlying t with
    | some (.int _) => true
    | some .string => true
    | some .bool => true
    | some (.struct fs) => match tSize P t with
      | some n => fs.toList.all fun f => f.name == "_" || match tSize P f.type, tAgg P f.type with
        | some m, some ag => decide (f.offset + m ≤ n) && (ag || m == 1) && chkT P d f.type
        | _, _ => false
      | none => false
    | some (.array len e) => match tSize P t, tSize P e, tAgg P e with
      | some n, some m, some ag => decide (len * m ≤ n) && (ag || m == 1) && chkT P d e
      | _, _, _ => false
    | _ => false

theorem chkT_sound : ∀ (d0 : Nat) (t : TypeId), chkT P d0 t = true → ∃ ag, tAgg P t = some ag ∧ ∀ (d : Nat), d0 ≤ d → ∀ (emp : Bool) (v : Value), (ag = true → ∃ xs n, v = .agg xs ∧ tSize P t = some n ∧ n ≤ xs.size) →
    (Instr.checkKey emp d t v).run P w = .ok () w := by
  intro d0
  induction d0 with
  | zero => intro t h; cases h
  | succ d0 ih =>
    intro t h
    unfold chkT at h
    split at h
    · rename_i k hu
      refine ⟨false, by simp [tAgg, hu], fun d hd emp v _ => ?_⟩
      match d, hd with
      | d + 1, _ => cases v <;> simp [Instr.checkKey, run_underlying hu]
    · rename_i hu
      refine ⟨false, by simp [tAgg, hu], fun d hd emp v _ => ?_⟩
      match d, hd with
      | d + 1, _ => cases v <;> simp [Instr.checkKey, run_underlying hu]
    · rename_i hu
      refine ⟨false, by simp [tAgg, hu], fun d hd emp v _ => ?_⟩
      match d, hd with
      | d + 1, _ => cases v <;> simp [Instr.checkKey, run_underlying hu]
    · rename_i fs hu
      split at h
      · rename_i n hn
        refine ⟨true, by simp [tAgg, hu], fun d hd emp v hv => ?_⟩
        obtain ⟨xs, n', rfl, hn', hle⟩ := hv rfl
        rw [hn] at hn'; cases hn'
        match d, hd with
        | d + 1, hd =>
          simp only [Instr.checkKey, Sem.run_bind, run_underlying hu, Result.andThen_ok]
          rw [← Array.forIn_toList]
          generalize fs.toList = fl at h
          clear hu
          induction fl with
          | nil => simp
          | cons f fl ihf =>
            simp only [List.all_cons, Bool.and_eq_true] at h
            obtain ⟨h1, h2⟩ := h
            simp only [List.forIn_cons, Sem.run_bind]
            by_cases hname : f.name = "_"
            · simp only [hname, ne_eq, not_true_eq_false, if_false, Sem.run_pure, Result.andThen_ok]
              exact ihf h2
            · have hnb : (f.name == "_") = false := by simpa using hname
              rw [hnb, Bool.false_or] at h1
              split at h1
              · rename_i m ag hm hag
                simp only [Bool.and_eq_true, decide_eq_true_eq, Bool.or_eq_true, beq_iff_eq] at h1
                obtain ⟨⟨q1, q2⟩, q3⟩ := h1
                obtain ⟨ag', hag', hrun⟩ := ih f.type q3
                rw [hag] at hag'; cases hag'
                have hp := run_partEq (w := w) hag hm xs f.offset (by omega) (fun e => q2.resolve_left (fun h => by rw [h] at e; cases e))
                have := hrun d (by omega) emp (if ag then .agg (xs.extract f.offset (f.offset + m)) else (xs.extract f.offset (f.offset + m)).getD 0 undef) (fun e => by
                  subst e
                  exact ⟨xs.extract f.offset (f.offset + m), m, if_pos rfl, hm, by rw [Array.size_extract]; omega⟩)
                simp only [hname, ne_eq, not_false_eq_true, if_true, Sem.run_bind, hp, Result.andThen_ok, this, Sem.run_pure]
                exact ihf h2
              · cases h1
      · cases h
    · rename_i len e hu
      split at h
      · rename_i n m ag hn hm hag
        simp only [Bool.and_eq_true, decide_eq_true_eq, Bool.or_eq_true, beq_iff_eq] at h
        obtain ⟨⟨q1, q2⟩, q3⟩ := h
        obtain ⟨ag', hag', hrun⟩ := ih e q3
        rw [hag] at hag'; cases hag'
        refine ⟨true, by simp [tAgg, hu], fun d hd emp v hv => ?_⟩
        obtain ⟨xs, n', rfl, hn', hle⟩ := hv rfl
        rw [hn] at hn'; cases hn'
        match d, hd with
        | d + 1, hd =>
          simp only [Instr.checkKey, Sem.run_bind, run_underlying hu, Result.andThen_ok]
          have e0 : ∀ (f : Nat → PUnit → Sem (ForInStep PUnit)) (i : PUnit), (forIn [:len] i f : Sem _) = forIn (List.range len) i f := fun f i => by
            rw [Std.Legacy.Range.forIn_eq_forIn_range']
            simp [Std.Legacy.Range.size, List.range_eq_range']
          rw [e0]
          have hall : ∀ i ∈ List.range len, i * m + m ≤ n := fun i hi => by
            have := List.mem_range.1 hi
            have : (i + 1) * m ≤ len * m := Nat.mul_le_mul_right m this
            rw [Nat.add_mul, Nat.one_mul] at this
            omega
          generalize List.range len = l at hall
          clear hu q1
          induction l with
          | nil => simp
          | cons i l ihl =>
            have hi := hall i (List.mem_cons_self ..)
            have hp := run_partEq (w := w) hag hm xs (i * m) (by omega) (fun e => q2.resolve_left (fun h => by rw [h] at e; cases e))
            have := hrun d (by omega) emp (if ag then .agg (xs.extract (i * m) (i * m + m)) else (xs.extract (i * m) (i * m + m)).getD 0 undef) (fun e => by
              subst e
              exact ⟨xs.extract (i * m) (i * m + m), m, if_pos rfl, hm, by rw [Array.size_extract]; omega⟩)
            simp only [List.forIn_cons, Sem.run_bind, run_sizeOf hm, hp, Result.andThen_ok, this, Sem.run_pure]
            exact ihl fun j hj => hall j (List.mem_cons_of_mem _ hj)
      · cases h
    · cases h

/-! ## Finding a key -/
def findE (pl : List Nat) (nk : Nat) (kc : List C) : List (List C) → Nat → Option (Option Nat)
  | [], _ => some none
  | e :: es, i => match planV kc (e.take nk) pl with
    | some true => some (some i)
    | some false => findE pl nk kc es (i + 1)
    | none => none

theorem cells_getD {ag : Bool} {v : Value} {cs : List C} (h : CellsOf F w ag v cs) : (ag = true ∧ ∃ vs, v = .agg vs ∧ vs.size = cs.length ∧ ∀ k, k < cs.length → CR F w (vs.getD k undef) (cs.getD k .any)) ∨ (ag = false ∧ ∃ c, cs = [c] ∧ CR F w v c) := by
  obtain ⟨x, h1, h2, h3⟩ := h
  unfold mkV at h1
  cases ag with
  | true =>
    simp at h1
    subst h1
    cases h2 with
    | agg vs _ hl hr => exact .inl ⟨rfl, vs, rfl, hl, hr⟩
  | false =>
    simp only [Bool.false_eq_true, if_false] at h1
    match cs, h1 with
    | [c], h1 =>
      cases h1
      cases h2 with
      | c h => exact .inr ⟨rfl, c, rfl, h⟩

/-- The type of a map's keys. -/
structure KeyT (P : Program) (kt : TypeId) (pl : List Nat) (nk : Nat) (kag : Bool) : Prop where
  plan : eqT P kt = some pl
  size : tSize P kt = some nk
  agg : tAgg P kt = some kag
  all : pl = List.range nk
  chk : chkT P 20 kt = true

theorem planV_all : ∀ (n : Nat) (cs ds : List C) (l : List Nat), planV cs ds l = some true → ∀ k ∈ l, ∃ i a, cs.getD k .any = .int i a ∧ ds.getD k .any = .int i a := by
  intro _ cs ds l
  induction l with
  | nil => intro _ k hk; cases hk
  | cons j l ih =>
    intro h k hk
    simp only [planV] at h
    split at h
    · rename_i i a j' b h1 h2
      split at h
      · rename_i hij
        subst hij
        cases hp : planV cs ds l with
        | none => rw [hp] at h; cases h
        | some x =>
          rw [hp] at h
          simp only [Option.map_some, Option.some.injEq, Bool.and_eq_true, beq_iff_eq] at h
          obtain ⟨rfl, rfl⟩ := h
          rcases List.mem_cons.1 hk with rfl | hk
          · exact ⟨_, _, h1, h2⟩
          · exact ih hp k hk
      · cases h
    · cases h

/-- Keys that are found equal are the same value. -/
theorem key_same {kt : TypeId} {pl : List Nat} {nk : Nat} {kag : Bool} (hk : KeyT P kt pl nk kag) {u v : Value} {cs ds : List C} (hu : CellsOf F w kag u cs) (hv : CellsOf F w kag v ds) (hcl : cs.length = nk) (hdl : ds.length = nk)
    (h : planV cs ds pl = some true) : u = v ∧ cs = ds ∧ (kag = true → ∃ vs, u = .agg vs ∧ ∀ x ∈ vs.toList, ∃ k n, x = .int k n) ∧ (kag = false → ∃ k n, u = .int k n) := by
  rw [hk.all] at h
  have hall := planV_all 0 cs ds _ h
  have hcd : cs = ds := by
    apply List.ext_getElem (by omega)
    intro k h1 h2
    obtain ⟨i, a, e1, e2⟩ := hall k (List.mem_range.2 (by omega))
    rw [getD_eq, List.getElem?_eq_getElem h1] at e1
    rw [getD_eq, List.getElem?_eq_getElem h2] at e2
    simp only [Option.getD_some] at e1 e2
    rw [e1, e2]
  rcases cells_getD hu with ⟨rfl, xs, rfl, hxl, hxr⟩ | ⟨rfl, c, rfl, hc⟩
  · rcases cells_getD hv with ⟨_, ys, rfl, hyl, hyr⟩ | ⟨h', _⟩
    · have hx : ∀ k (hk' : k < xs.size) , ∃ i a, xs[k] = .int i a ∧ cs.getD k .any = .int i a := fun k hk' => by
        obtain ⟨i, a, e1, e2⟩ := hall k (List.mem_range.2 (by omega))
        have := hxr k (by omega)
        rw [e1] at this
        rw [Array.getD_eq_getD_getElem?, Array.getElem?_eq_getElem hk'] at this
        simp only [Option.getD_some] at this
        cases hq : xs[k] <;> rw [hq] at this <;> cases this
        exact ⟨_, _, rfl, e1⟩
      refine ⟨?_, hcd, fun _ => ⟨xs, rfl, fun x hx' => ?_⟩, fun h => by cases h⟩
      · congr 1
        apply Array.ext (by omega)
        intro k h1 h2
        obtain ⟨i, a, e1, e2⟩ := hall k (List.mem_range.2 (by omega))
        have g1 := hxr k (by omega)
        have g2 := hyr k (by omega)
        rw [e1, Array.getD_eq_getD_getElem?, Array.getElem?_eq_getElem h1] at g1
        rw [e2, Array.getD_eq_getD_getElem?, Array.getElem?_eq_getElem h2] at g2
        simp only [Option.getD_some] at g1 g2
        cases hq : xs[k] <;> rw [hq] at g1 <;> cases g1
        cases hr : ys[k] <;> rw [hr] at g2 <;> cases g2
        rfl
      · obtain ⟨k, hk', rfl⟩ := List.getElem_of_mem hx'
        obtain ⟨i, a, e, _⟩ := hx k (by simpa using hk')
        exact ⟨i, a, by simpa using e⟩
    · cases h'
  · rcases cells_getD hv with ⟨h', _⟩ | ⟨_, d, rfl, hd⟩
    · cases h'
    · have hn : nk = 1 := by simpa using hcl.symm
      obtain ⟨i, a, e1, e2⟩ := hall 0 (List.mem_range.2 (by omega))
      simp only [List.getD_cons_zero] at e1 e2
      subst e1 e2
      cases hc
      cases hd
      exact ⟨rfl, rfl, fun h => by (cases h), fun _ => ⟨_, _, rfl⟩⟩

theorem run_equal_keys {kt : TypeId} {pl : List Nat} {nk : Nat} {kag : Bool} (hk : KeyT P kt pl nk kag) {u v : Value} {cs ds : List C} (hu : CellsOf F w kag u cs) (hv : CellsOf F w kag v ds) (hcl : cs.length = nk) (hdl : ds.length = nk)
    {b : Bool} (h : planV cs ds pl = some b) : (Op.equal kt u v).run P w = .ok b w := by
  have hp := hk.plan
  unfold eqT at hp
  split at hp
  · cases hp
  · obtain ⟨ag, n, hag, hn, _, hrun⟩ := eqPlan_sound (F := F) (w := w) 64 kt 0 pl hp
    rw [hk.agg] at hag; cases hag
    rw [hk.size] at hn; cases hn
    have q := fun xs ys => hrun Op.maxDepth (by decide) xs ys cs ds b
    unfold Op.equal
    rcases cells_getD hu with ⟨rfl, xs, rfl, hxl, hxr⟩ | ⟨rfl, c, rfl, hc⟩
    · rcases cells_getD hv with ⟨_, ys, rfl, hyl, hyr⟩ | ⟨h', _⟩
      · exact q xs ys ⟨by omega, fun k hk => by simpa using hxr k (by omega)⟩ ⟨by omega, fun k hk => by simpa using hyr k (by omega)⟩ h
      · cases h'
    · rcases cells_getD hv with ⟨h', _⟩ | ⟨_, d, rfl, hd⟩
      · cases h'
      · have hn : nk = 1 := by simpa using hcl.symm
        subst hn
        have one : ∀ {x : Value} {y : C}, CR F w x y → EqRel F w #[x] [y] 0 1 := fun {x y} hx => ⟨by simp, fun k hk => by
          obtain rfl : k = 0 := by omega
          simpa using hx⟩
        exact q #[u] #[v] (one hc) (one hd) h

def valAt (es : List MapEntry) (i : Nat) : Value := ((es[i]?).map (·.val)).getD undef
theorem findAsking_sound {kt : TypeId} {pl : List Nat} {nk : Nat} {kag : Bool} (hk : KeyT P kt pl nk kag) {u : Value} {kc : List C} (hu : CellsOf F w kag u kc) (hcl : kc.length = nk) :
    ∀ (es : List MapEntry) (ents : List (List C)) (i0 : Nat) (r : Option Nat), es.length = ents.length → (∀ (j : Nat) (e : MapEntry) (c : List C), es[j]? = some e → ents[j]? = some c → nk ≤ c.length ∧ CellsOf F w kag e.key (c.take nk)) →
      findE pl nk kc ents i0 = some r → (Instr.findAsking kt u es i0).run P w = .ok (r.map fun i => (i, valAt es (i - i0))) w ∧ ∀ i, r = some i → i0 ≤ i
  | [], [], i0, r, _, _, h => by
    simp only [findE, Option.some.injEq] at h
    subst h
    exact ⟨rfl, fun i h => by cases h⟩
  | e :: es, c :: ents, i0, r, hl, hE, h => by
    obtain ⟨q1, q2⟩ := hE 0 e c rfl rfl
    simp only [findE] at h
    have htl : (c.take nk).length = nk := by simp; omega
    split at h
    · rename_i hp
      cases h
      refine ⟨?_, fun i h => by cases h; exact Nat.le_refl _⟩
      simp [Instr.findAsking, run_equal_keys hk hu q2 hcl htl hp, valAt]
    · rename_i hp
      obtain ⟨ih1, ih2⟩ := findAsking_sound hk hu hcl es ents (i0 + 1) r (by simpa using hl) (fun j e' c' he hc => hE (j + 1) e' c' (by simpa using he) (by simpa using hc)) h
      refine ⟨?_, fun i hi => by have := ih2 i hi; omega⟩
      simp only [Instr.findAsking, Sem.run_bind, run_equal_keys hk hu q2 hcl htl hp, Result.andThen_ok, Bool.false_eq_true, if_false, ih1]
      congr 1
      cases r with
      | none => rfl
      | some i =>
        have := ih2 i rfl
        simp only [Option.map_some, valAt]
        congr 2
        rw [show i - i0 = (i - (i0 + 1)) + 1 by omega, List.getElem?_cons_succ]
    · cases h
  | [], _ :: _, _, _, hl, _, _ => by simp at hl
  | _ :: _, [], _, _, hl, _, _ => by simp at hl
theorem findNow_int {pl : List Nat} {nk : Nat} {kd : IntKind} (hpl : pl = [0]) (hn : nk = 1) {u : Value} {kc : List C} (hu : CellsOf F w false u kc) :
    ∀ (es : List MapEntry) (ents : List (List C)) (i0 : Nat) (r : Option Nat), es.length = ents.length → (∀ (j : Nat) (e : MapEntry) (c : List C), es[j]? = some e → ents[j]? = some c → nk ≤ c.length ∧ CellsOf F w false e.key (c.take nk)) →
      findE pl nk kc ents i0 = some r → Instr.findNow (.int kd) u es i0 = some (r.map fun i => (i, valAt es (i - i0))) ∧ ∀ i, r = some i → i0 ≤ i
  | [], [], i0, r, _, _, h => by
    simp only [findE, Option.some.injEq] at h
    subst h
    exact ⟨rfl, fun i h => by cases h⟩
  | e :: es, c :: ents, i0, r, hl, hE, h => by
    obtain ⟨q1, q2⟩ := hE 0 e c rfl rfl
    rcases cells_getD hu with ⟨h', _⟩ | ⟨_, x, rfl, hx⟩
    · cases h'
    rcases cells_getD q2 with ⟨h', _⟩ | ⟨_, y, hy0, hy⟩
    · cases h'
    subst hpl
    simp only [findE, hy0, planV, List.getD_cons_zero] at h
    have key : ∀ {i j : IntKind} {a b : Int}, x = .int i a → y = .int j b → i = j → Instr.sameNow (.int kd) u e.key = some (a == b) := by
      rintro i j a b rfl rfl rfl
      cases hx
      generalize e.key = ek at hy
      cases hy
      simp [Instr.sameNow]
    split at h
    · rename_i hp
      cases h
      refine ⟨?_, fun i h => by cases h; exact Nat.le_refl _⟩
      split at hp
      · rename_i _ _ i a j b
        split at hp
        · rename_i hij
          simp only [Option.map_some, Option.some.injEq, Bool.and_true] at hp
          simp [Instr.findNow, key rfl rfl hij, hp, valAt]
        · cases hp
      · cases hp
    · rename_i hp
      obtain ⟨ih1, ih2⟩ := findNow_int (kd := kd) rfl hn hu es ents (i0 + 1) r (by simpa using hl) (fun j e' c' he hc => hE (j + 1) e' c' (by simpa using he) (by simpa using hc)) h
      refine ⟨?_, fun i hi => by have := ih2 i hi; omega⟩
      split at hp
      · rename_i _ _ i a j b
        split at hp
        · rename_i hij
          simp only [Option.map_some, Option.some.injEq, Bool.and_true] at hp
          simp only [Instr.findNow, key rfl rfl hij, hp, ih1]
          congr 1
          cases r with
          | none => rfl
          | some i =>
            have := ih2 i rfl
            simp only [Option.map_some, valAt]
            congr 2
            rw [show i - i0 = (i - (i0 + 1)) + 1 by omega, List.getElem?_cons_succ]
        · cases hp
      · cases hp
    · cases h
  | [], _ :: _, _, _, hl, _, _ => by simp at hl
  | _ :: _, [], _, _, hl, _, _ => by simp at hl
theorem findKey_sound {kt : TypeId} {pl : List Nat} {nk : Nat} {kag : Bool} (hk : KeyT P kt pl nk kag) {u : Value} {kc : List C} (hu : CellsOf F w kag u kc) (hcl : kc.length = nk) (es : List MapEntry) (ents : List (List C)) (r : Option Nat)
    (hl : es.length = ents.length) (hE : ∀ (j : Nat) (e : MapEntry) (c : List C), es[j]? = some e → ents[j]? = some c → nk ≤ c.length ∧ CellsOf F w kag e.key (c.take nk)) (h : findE pl nk kc ents 0 = some r) :
    (Instr.findKey kt u es).run P w = .ok (r.map fun i => (i, valAt es i)) w := by
  have hA := (findAsking_sound hk hu hcl es ents 0 r hl hE h).1
  simp only [Nat.sub_zero] at hA
  have hp := hk.plan
  unfold eqT at hp
  split at hp
  · cases hp
  unfold eqPlan at hp
  have hag := hk.agg
  split at hp
  · rename_i kd hd
    have hkag : kag = false := by
      have : tAgg P kt = some false := by simp [tAgg, hd]
      rw [this] at hag; cases hag; rfl
    subst hkag
    have hn1 : nk = 1 := by
      rcases cells_getD hu with ⟨h', _⟩ | ⟨_, x, rfl, hx⟩
      · cases h'
      · simpa using hcl.symm
    have hpl : pl = [0] := by rw [hk.all, hn1]; rfl
    have hN := (findNow_int (kd := kd) hpl hn1 hu es ents 0 r hl hE h).1
    simp only [Nat.sub_zero] at hN
    simp [Instr.findKey, run_underlying hd, hN]
  all_goals
    first
    | (cases hp; done)
    | skip
  all_goals
    rename_i hd
    have hkag : kag = true := by
      have : tAgg P kt = some true := by simp [tAgg, hd]
      rw [this] at hag; cases hag; rfl
    subst hkag
    rcases cells_getD hu with ⟨_, xs, rfl, hxl, hxr⟩ | ⟨h', _⟩
    · cases es with
      | nil =>
        cases ents with
        | nil =>
          simp only [findE, Option.some.injEq] at h
          subst h
          simp [Instr.findKey, run_underlying hd, Instr.findNow]
        | cons => simp at hl
      | cons e es =>
        have : ∀ d, Instr.findNow d (.agg xs) (e :: es) 0 = none := by
          intro d
          cases d <;> rfl
        simp only [Instr.findKey, Sem.run_bind, run_underlying hd, Result.andThen_ok, this, hA]
    · cases h'

/-! ## Operations on maps, abstractly -/
def partsV : V → Option (Bool × List C)
  | .agg l => some (true, l)
  | .c x => some (false, [x])
  | .tup _ => none
def zV (P : Program) (t : TypeId) : Option V := match P.info? t with
  | some i => i.zero.map vOf
  | none => none
/-- A map's type: the plan of its keys, their cells, whether keys and values are structs or arrays, and the zero value. -/
def mTy (P : Program) (t : TypeId) : Option (List Nat × Nat × Bool × Bool × V) :=
  match P.underlying t with
  | some (.map kt et) => if chkT P 20 kt = true then match eqT P kt, tSize P kt, tAgg P kt, tAgg P et, zV P et with
      | some pl, some nk, some kag, some vag, some z => if pl = List.range nk then some (pl, nk, kag, vag, z) else none
      | _, _, _, _, _ => none
    else none
  | _ => none
def okV (ok b : Bool) (v : V) : V := if ok then .tup [v, .c (.bool b)] else v
/-- The key's cells, and the map's object. -/
def mObj (P : Program) (bx : Nat → Option (Nat × List C)) (t : TypeId) (m k : V) : Option (List Nat × Nat × Bool × Bool × V × List C × Nat × Nat × List (List C)) :=
  match mTy P t, partsV k, m with
  | some (pl, nk, kag, vag, z), some (kg, kc), .c (.map key b) => match bx key with
    | some (b', [.mapc kag' nk' vag' ents]) => if kg = kag ∧ kc.length = nk ∧ kc.all C.known = true ∧ b = b' ∧ kag' = kag ∧ nk' = nk ∧ vag' = vag then some (pl, nk, kag, vag, z, kc, key, b, ents) else none
    | _ => none
  | _, _, _ => none
def lookV (P : Program) (bx : Nat → Option (Nat × List C)) (t : TypeId) (m k : V) (ok : Bool) : Option V :=
  match mObj P bx t m k with
  | some (pl, nk, _, vag, z, kc, _, _, ents) => match findE pl nk kc ents 0 with
    | some (some i) => match ents[i]? with
      | some e => (mkV vag (e.drop nk)).map (okV ok true)
      | none => none
    | some none => some (okV ok false z)
    | none => none
  | none => none
def mupV (P : Program) (bx : Nat → Option (Nat × List C)) (t : TypeId) (m k v : V) : Option (Nat × Nat × List C) :=
  match mObj P bx t m k, partsV v with
  | some (pl, nk, kag, vag, _, kc, key, b, ents), some (vg, vc) => if vg = vag ∧ vc.all C.known = true then
      match findE pl nk kc ents 0 with
      | some (some i) => some (key, b, [.mapc kag nk vag (ents.set i (kc ++ vc))])
      | some none => some (key, b, [.mapc kag nk vag (ents ++ [kc ++ vc])])
      | none => none
    else none
  | _, _ => none
def mentV (P : Program) (bx : Nat → Option (Nat × List C)) (t : TypeId) (m k : V) : Option ((Nat × Nat × List C) × V) :=
  match mObj P bx t m k with
  | some (pl, nk, kag, vag, z, kc, key, b, ents) => match findE pl nk kc ents 0 with
    | some (some i) => match ents[i]? with
      | some e => (mkV vag (e.drop nk)).map fun v => ((key, b, [.mapc kag nk vag ents]), .tup [v, .c (.int .i64 (i : Nat))])
      | none => none
    | some none => match partsV z with
      | some (vg, vc) => if vg = vag ∧ vc.all C.known = true then some ((key, b, [.mapc kag nk vag (ents ++ [kc ++ vc])]), .tup [z, .c (.int .i64 (ents.length : Nat))]) else none
      | none => none
    | none => none
  | none => none
def mstV (bx : Nat → Option (Nat × List C)) (m s v : V) : Option (Nat × Nat × List C) :=
  match m, s, partsV v with
  | .c (.map key b), .c (.int _ i), some (vg, vc) => match bx key with
    | some (b', [.mapc kag nk vag ents]) => if b = b' ∧ vg = vag ∧ vc.all C.known = true ∧ 0 ≤ i then match ents[i.toNat]? with
        | some e => some (key, b, [.mapc kag nk vag (ents.set i.toNat (e.take nk ++ vc))])
        | none => none
      else none
    | _ => none
  | _, _, _ => none

def leftI (n : Nat) (seen : List Nat) : List Nat := (List.range n).filter fun i => !seen.contains i
/-- An iterator and its map: keys, blocks, entries. -/
def itObj (bx : Nat → Option (Nat × List C)) (it : V) : Option (Nat × Nat × Nat × Nat × Bool × Nat × Bool × List (List C) × List Nat) :=
  match it with
  | .c (.box key b 0) => match bx key with
    | some (b', [.iter mk mb n seen]) => match bx mk with
      | some (mb', [.mapc kag nk vag ents]) => if b = b' ∧ mb = mb' ∧ ents.length = n then some (key, b, mk, mb, kag, nk, vag, ents, seen) else none
      | _ => none
    | _ => none
  | _ => none
def nextV (bx : Nat → Option (Nat × List C)) (β : Nat) (it : V) : Option (Option (Nat × Nat × List C) × V) :=
  match itObj bx it with
  | some (key, b, mk, mb, kag, nk, vag, ents, seen) =>
    match leftI ents.length seen with
    | [] => some (none, .tup [.c (.bool false)])
    | i :: r => match ents[(i :: r).getD (β % (r.length + 1)) 0]? with
      | some e => match mkV kag (e.take nk), mkV vag (e.drop nk) with
        | some x, some y => some (some (key, b, [.iter mk mb ents.length (seen ++ [(i :: r).getD (β % (r.length + 1)) 0])]), .tup [.c (.bool true), x, y])
        | _, _ => none
      | none => none
  | none => none
def entV (bx : Nat → Option (Nat × List C)) (it : V) : Option V :=
  match itObj bx it with
  | some (_, _, _, _, kag, nk, vag, ents, seen) => match seen.getLast? with
    | some i => match ents[i]? with
      | some e => match mkV kag (e.take nk), mkV vag (e.drop nk) with
        | some x, some y => some (.tup [x, y])
        | _, _ => none
      | none => none
    | none => none
  | none => none

theorem partsV_cells {v : Value} {x : V} (hv : VR F w v x) {g : Bool} {c : List C} (h : partsV x = some (g, c)) (hk : c.all C.known = true) : CellsOf F w g v c := by
  cases x with
  | agg l =>
    simp only [partsV, Option.some.injEq, Prod.mk.injEq] at h
    obtain ⟨rfl, rfl⟩ := h
    exact ⟨.agg l, rfl, hv, hk⟩
  | c x =>
    simp only [partsV, Option.some.injEq, Prod.mk.injEq] at h
    obtain ⟨rfl, rfl⟩ := h
    exact ⟨.c x, rfl, hv, hk⟩
  | tup l => cases h
theorem mTy_some {t : TypeId} {pl : List Nat} {nk : Nat} {kag vag : Bool} {z : V} (h : mTy P t = some (pl, nk, kag, vag, z)) :
    ∃ kt et, P.underlying t = some (.map kt et) ∧ KeyT P kt pl nk kag ∧ ∃ zv, (zeroValue et).run P w = .ok zv w ∧ VR F w zv z := by
  unfold mTy at h
  split at h
  · rename_i kt et hu
    split at h
    · rename_i hc
      split at h
      · rename_i pl' nk' kag' vag' z' h1 h2 h3 h4 h5
        split at h
        · rename_i hp
          simp only [Option.some.injEq, Prod.mk.injEq] at h
          obtain ⟨rfl, rfl, rfl, rfl, rfl⟩ := h
          refine ⟨kt, et, hu, ⟨h1, h2, h3, hp, hc⟩, ?_⟩
          unfold zV at h5
          split at h5
          · rename_i i hi
            obtain ⟨zv, hz, rfl⟩ := Option.map_eq_some_iff.1 h5
            exact ⟨zv, by simp [zeroValue, typeInfo, hi, hz], vOf_reads F w zv⟩
          · cases h5
        · cases h
      · cases h
    · cases h
  · cases h

section sound
variable {E : Env} {st : St} {a : Act}
/-- What is known of a map and a key. -/
structure MObj (F : Nat → Nat → Prop) (w : World) (P : Program) (t : TypeId) (u v : Value) (pl : List Nat) (nk : Nat) (kag vag : Bool) (z : V) (kc : List C) (b : Nat) (ents : List (List C)) (kt et : TypeId) (es : Array MapEntry) : Prop where
  ty : P.underlying t = some (.map kt et)
  key : KeyT P kt pl nk kag
  zero : ∃ zv, (zeroValue et).run P w = .ok zv w ∧ VR F w zv z
  map : u = .map (some b)
  cells : CellsOf F w kag v kc
  len : kc.length = nk
  heap : w.heap[b]? = some (.map es es.size)
  size : es.size = ents.length
  ents : ∀ i e c, es[i]? = some e → ents[i]? = some c → EntOk F w kag nk vag i e c
theorem mObj_some (h : Rel E F st a w) {t : TypeId} {u v : Value} {m k : V} (hu : VR F w u m) (hv : VR F w v k) {pl : List Nat} {nk : Nat} {kag vag : Bool} {z : V} {kc : List C} {key b : Nat} {ents : List (List C)}
    (hm : mObj P st.bx t m k = some (pl, nk, kag, vag, z, kc, key, b, ents)) : st.bx key = some (b, [.mapc kag nk vag ents]) ∧ ∃ kt et es, MObj F w P t u v pl nk kag vag z kc b ents kt et es := by
  unfold mObj at hm
  split at hm
  · rename_i pl' nk' kag' vag' z' kg' kc' key' b' hty hp
    split at hm
    · rename_i b2 kag2 nk2 vag2 ents2 hbx
      split at hm
      · rename_i hc
        obtain ⟨rfl, rfl, hkn, rfl, rfl, rfl, rfl⟩ := hc
        simp only [Option.some.injEq, Prod.mk.injEq] at hm
        obtain ⟨rfl, rfl, rfl, rfl, rfl, rfl, rfl, rfl, rfl⟩ := hm
        obtain ⟨kt, et, q1, q2, q3⟩ := mTy_some (F := F) (w := w) hty
        obtain ⟨hob, _, _⟩ := h.boxes _ _ _ hbx
        cases hu with
        | c hu =>
        cases hu
        cases hob with
        | cells _ cells T hh hl hr =>
          have := hr 0 (by simp)
          simp only [List.getD_cons_zero] at this
          generalize cells.getD 0 undef = q at this
          cases this
        | map _ _ _ _ es hh hl hr => exact ⟨hbx, kt, et, es, ⟨q1, q2, q3, rfl, partsV_cells hv hp hkn, rfl, hh, hl, hr⟩⟩
      · cases hm
    · cases hm
  · cases hm
theorem MObj.find {t : TypeId} {u v : Value} {pl : List Nat} {nk : Nat} {kag vag : Bool} {z : V} {kc : List C} {b : Nat} {ents : List (List C)} {kt et : TypeId} {es : Array MapEntry} (h : MObj F w P t u v pl nk kag vag z kc b ents kt et es) {r : Option Nat}
    (hr : findE pl nk kc ents 0 = some r) : (Instr.findKey kt v es.toList).run P w = .ok (r.map fun i => (i, valAt es.toList i)) w :=
  findKey_sound h.key h.cells h.len es.toList ents r (by simpa using h.size) (fun j e c he hc => by
    have := h.ents j e c (by simpa using he) hc
    exact ⟨this.2.1, this.2.2.1⟩) hr
theorem MObj.chk {t : TypeId} {u v : Value} {pl : List Nat} {nk : Nat} {kag vag : Bool} {z : V} {kc : List C} {b : Nat} {ents : List (List C)} {kt et : TypeId} {es : Array MapEntry} (h : MObj F w P t u v pl nk kag vag z kc b ents kt et es) (emp : Bool) :
    (Instr.checkKey emp 10000 kt v).run P w = .ok () w := by
  obtain ⟨ag, hag, hrun⟩ := chkT_sound (w := w) 20 kt h.key.chk
  refine hrun 10000 (by decide) emp v (fun e => ?_)
  subst e
  rw [h.key.agg] at hag
  cases hag
  rcases cells_getD h.cells with ⟨_, vs, rfl, hl, _⟩ | ⟨h', _⟩
  · exact ⟨vs, nk, rfl, h.key.size, by rw [hl, h.len]; exact Nat.le_refl _⟩
  · cases h'
theorem findE_lt {pl : List Nat} {nk : Nat} {kc : List C} : ∀ {ents : List (List C)} {i0 i : Nat}, findE pl nk kc ents i0 = some (some i) → i0 ≤ i ∧ i < i0 + ents.length ∧ ∃ e, ents[i - i0]? = some e ∧ planV kc (e.take nk) pl = some true
  | [], i0, i, h => by simp [findE] at h
  | e :: es, i0, i, h => by
    simp only [findE] at h
    split at h
    · rename_i hp
      cases h
      exact ⟨Nat.le_refl _, by simp, e, by simp, hp⟩
    · obtain ⟨h1, h2, e', h3, h4⟩ := findE_lt h
      refine ⟨by omega, by simp; omega, e', ?_, h4⟩
      rw [show i - i0 = (i - (i0 + 1)) + 1 by omega, List.getElem?_cons_succ]
      exact h3
    · cases h
theorem lookV_sound (h : Rel E F st a w) {t : TypeId} {u v : Value} {m k : V} (hu : VR F w u m) (hv : VR F w v k) {ok : Bool} {z : V} (hz : lookV P st.bx t m k ok = some z) :
    ∃ r, (Instr.lookup t u v ok).run P w = .ok r w ∧ VR F w r z := by
  unfold lookV at hz
  split at hz
  · rename_i pl nk kag vag z0 kc key b ents hm
    obtain ⟨hbx, kt, et, es, hM⟩ := mObj_some h hu hv hm
    have hty := hM.ty
    have hchk := hM.chk
    have hheap := hM.heap
    have hum := hM.map
    subst hum
    have hres : ∀ (x : Value) (y : V) (bb : Bool), VR F w x y → VR F w (if ok = true then .tuple #[x, .bool bb] else x) (okV ok bb y) := by
      intro x y bb hxy
      cases ok
      · exact hxy
      · refine .tup _ _ rfl fun j hj => ?_
        match j, hj with
        | 0, _ => exact hxy
        | 1, _ => exact .c (.bool _)
    split at hz
    · rename_i i hf
      have hfind := hM.find hf
      split at hz
      · rename_i e he
        obtain ⟨x, hx1, rfl⟩ := Option.map_eq_some_iff.1 hz
        have hil : i < es.size := by rw [hM.size]; exact (List.getElem?_eq_some_iff.1 he).1
        obtain ⟨_, _, _, y, hy1, hy2, _⟩ := hM.ents i es[i] e (Array.getElem?_eq_getElem hil) he
        rw [hx1] at hy1; cases hy1
        refine ⟨if ok = true then .tuple #[es[i].val, .bool true] else es[i].val, ?_, hres _ _ _ hy2⟩
        have hva : valAt es.toList i = es[i].val := by simp [valAt, hil]
        simp only [Instr.lookup, Sem.run_bind, run_underlying hty, Result.andThen_ok, Go.MapKept.run_getObj_map hheap, Sem.run_pure, hchk, hfind, Option.map_some, hva]
      · cases hz
    · rename_i hf
      have hfind := hM.find hf
      cases hz
      obtain ⟨zv, q1, q2⟩ := hM.zero
      refine ⟨if ok = true then .tuple #[zv, .bool false] else zv, ?_, hres _ _ _ q2⟩
      simp only [Instr.lookup, Sem.run_bind, run_underlying hty, Result.andThen_ok, Go.MapKept.run_getObj_map hheap, Sem.run_pure, hchk, hfind, Option.map_none, q1]
    · cases hz
  · cases hz
end sound
end
end Go.Vm
end
section
namespace Go.Vm

/-! ## Operations that turn no memory -/
def V.cells : V → Option (List C)
  | .c x => if x.known then some [x] else none
  | .agg l => some l
  | .tup _ => none

theorem VR.inv {F : Nat → Nat → Prop} {w : World} {v : Value} {x : C} (h : VR F w v (.c x)) : CR F w v x := by
  cases h with
  | c h => exact h

theorem VR.cells {F : Nat → Nat → Prop} {w : World} {v : Value} {x : V} {cs : List C} (h : VR F w v x) (hc : x.cells = some cs) :
    v.cells.size = cs.length ∧ ∀ k, k < cs.length → CR F w (v.cells.getD k undef) (cs.getD k .any) := by
  cases h with
  | c h =>
    rename_i c
    simp only [V.cells] at hc
    split at hc
    · rename_i hk
      simp only [Option.some.injEq] at hc
      subst hc
      have h1 := h.oneCell hk
      have : v.cells = #[v] := by cases v <;> first | rfl | simp [Value.oneCell'] at h1
      rw [this]
      refine ⟨rfl, fun k hk => ?_⟩
      simp at hk
      subst hk
      simpa using h
    · cases hc
  | agg vs cs' hl hr =>
    simp only [V.cells, Option.some.injEq] at hc
    subst hc
    exact ⟨hl, hr⟩
  | tup => simp [V.cells] at hc

def iKind (P : Program) (t : TypeId) : Option IntKind :=
  match P.underlying t with
  | some (.int k) => some k
  | _ => none

def isPtr (P : Program) (t : TypeId) : Bool :=
  match P.underlying t with
  | some (.pointer _) => true
  | _ => false
theorem isPtr_some {P : Program} {t : TypeId} (h : isPtr P t = true) : P.underlying t = some (.pointer (P.pointee t)) := by
  unfold isPtr at h
  split at h
  · rename_i e he; simp [Program.pointee, he]
  · cases h
/-- A pointer beside nil. -/
def ptrNil (P : Program) (op : BinOp) (T : TypeId) (b : Bool) : Option V := if isPtr P T = true then match op with
    | .eql => some (.c (.bool b))
    | .neq => some (.c (.bool (!b)))
    | _ => none
  else none
def binV (P : Program) (op : BinOp) (T : TypeId) (x y : V) : Option V :=
  match x, y with
  | .c (.int k a), .c (.int k' b) => if k = k' ∨ op = .shl ∨ op = .shr then (intV op k a b).map .c else none
  | .c (.str a), .c (.str b) => (strV op a b).map .c
  | .c (.bool a), .c (.bool b) => if isTy P T = 1 then match op with
      | .eql => some (.c (.bool (a == b)))
      | .neq => some (.c (.bool (!(a == b))))
      | _ => none
    else none
  | .c (.sl nl _ _ _), .c (.sl true _ _ _) => if isTy P T = 2 then match op with
      | .eql => some (.c (.bool nl))
      | .neq => some (.c (.bool (!nl)))
      | _ => none
    else none
  | .c (.box _ _ _), .c .nilp => ptrNil P op T false
  | .c (.el _ _ _ _), .c .nilp => ptrNil P op T false
  | .c .nilp, .c .nilp => ptrNil P op T true
  | .agg cs, .agg ds => match eqT P T, tSize P T, tAgg P T with
    | some pl, some n, some true => if n ≤ cs.length ∧ n ≤ ds.length then match planV cs ds pl with
        | some b => match op with
          | .eql => some (.c (.bool b))
          | .neq => some (.c (.bool (!b)))
          | _ => none
        | none => none
      else none
    | _, _, _ => none
  | _, _ => none

def unV (op : UnOp) (x : V) : Option V :=
  match op, x with
  | .not, .c (.bool b) => some (.c (.bool (!b)))
  | .neg, .c (.int k n) => some (.c (.int k (k.wrap (0 - n))))
  | _, _ => none

/-- The numbers of a list of one-cell elements. -/
def intsOf : List (List C) → Option (List Int)
  | [] => some []
  | [.int .u8 n] :: r => (intsOf r).map (n :: ·)
  | _ => none
def bytesOf (ns : List Int) : ByteArray := ns.foldl (fun r n => r.push (UInt8.ofNat n.toNat)) ByteArray.empty

def convV (P : Program) (src dst : TypeId) (x : V) : Option V :=
  match x with
  | .c (.int _ n) => match iKind P src, iKind P dst with
    | some _, some k => some (.c (.int k (k.wrap n)))
    | _, _ => none
  | .c (.str s) => if isTy P src = 6 ∧ isTy P dst = 6 then some (.c (.str s)) else none
  | .c (.sl _ _ _ es) => match sElem P src with
    | some (e, 1) => if isTy P e = 5 ∧ isTy P dst = 6 then (intsOf es).map fun ns => .c (.str (bytesOf ns)) else none
    | _ => none
  | _ => none

def byteAt (s : ByteArray) (i : Nat) : Int := if h : i < s.size then (s[i].toNat : Int) else 0

def idxAddrV (P : Program) (t : TypeId) (x i : V) : Option V :=
  match i with
  | .c (.int _ j) => match x with
    | .c (.sl _ n _ es) => match sElem P t with
      | some (_, m) => if m = n ∧ 0 ≤ j ∧ j.toNat < es.length then some (.c (.el n es j.toNat 0)) else none
      | none => none
    | .c (.box k b o) => match aInfo P t with
      | some (len, _, m) => if 0 ≤ j ∧ j.toNat < len then some (.c (.box k b (o + j.toNat * m))) else none
      | none => none
    | .c (.ms n key b i0 len) => match sElem P t with
      | some (_, m) => if m = n ∧ 0 ≤ j ∧ j.toNat < len then some (.c (.box key b ((i0 + j.toNat) * n))) else none
      | none => none
    | _ => none
  | _ => none

def idxV (P : Program) (t : TypeId) (x i : V) : Option V :=
  match i with
  | .c (.int _ j) => match x with
    | .c (.str s) => if isTy P t = 6 ∧ 0 ≤ j ∧ j.toNat < s.size then some (.c (.int .u8 (byteAt s j.toNat))) else none
    | .agg cs => match aInfo P t with
      | some (len, e, m) => if 0 ≤ j ∧ j.toNat < len ∧ j.toNat * m + m ≤ cs.length then (match tAgg P e with | some ag => mkV ag ((cs.drop (j.toNat * m)).take m) | none => none) else none
      | none => none
    | _ => none
  | _ => none

def fldAddrV (P : Program) (s f : Nat) (x : V) : Option V :=
  match fOff P s f with
  | some d => match x with
    | .c (.box k b o) => some (.c (.box k b (o + d)))
    | .c (.el n es i o) => some (.c (.el n es i (o + d)))
    | _ => none
  | none => none

/-- A bound of a slice expression. -/
def bndV (d : Nat) : Option V → Option Nat
  | none => some d
  | some (.c (.int _ j)) => if 0 ≤ j then some j.toNat else none
  | some _ => none

def sliceV (P : Program) (t : TypeId) (x : V) (lo hi mx : Option V) : Option V :=
  match mx with
  | some _ => none
  | none => match x with
    | .c (.str s) => match bndV 0 lo, bndV s.size hi with
      | some l, some h => if isTy P t = 6 ∧ l ≤ h ∧ h ≤ s.size then some (.c (.str (s.extract l h))) else none
      | _, _ => none
    | .c (.sl nl n _ es) => match sElem P t, bndV 0 lo, bndV es.length hi with
      | some (_, m), some l, some h => if (m = n ∨ es = []) ∧ l ≤ h ∧ h ≤ es.length then some (.c (.sl nl m none ((es.take h).drop l))) else none
      | _, _, _ => none
    | .c (.room n key b) => match sElem P t, bndV 0 lo, hi.isSome, bndV 0 hi with
      | some (_, m), some 0, true, some 0 => if m = n then some (.c (.sl false m (some (key, b)) [])) else none
      | _, _, _, _ => none
    | .c (.ms n key b i len) => match sElem P t, bndV 0 lo, bndV len hi with
      | some (_, m), some l, some h => if m = n ∧ l ≤ h ∧ h ≤ len then some (.c (.ms n key b (i + l) (h - l))) else none
      | _, _, _ => none
    | _ => none

def lenV (P : Program) (t : TypeId) (x : V) : Option V :=
  match x with
  | .c (.sl _ _ _ es) => if isTy P t = 2 then some (.c (.int .i64 (es.length : Nat))) else none
  | .c (.str s) => if isTy P t = 6 then some (.c (.int .i64 (s.size : Nat))) else none
  | .c (.ms _ _ _ _ len) => if isTy P t = 2 then some (.c (.int .i64 (len : Nat))) else none
  | _ => none

def capV (P : Program) (t : TypeId) (x : V) : Option V :=
  match x with
  | .c (.sl true _ _ _) => if isTy P t = 2 then some (.c (.int .i64 0)) else none
  | _ => none
def minV (x y : V) : Option V :=
  match x, y with
  | .c (.int k a), .c (.int _ b) => some (.c (.int k (if b < a then b else a)))
  | _, _ => none
def maxV (x y : V) : Option V :=
  match x, y with
  | .c (.int k a), .c (.int _ b) => some (.c (.int k (if a < b then b else a)))
  | _, _ => none

def capsOf : List V → Option (List C)
  | [] => some []
  | .c x :: r => (capsOf r).map (x :: ·)
  | _ => none

def extV (x : V) (i : Nat) : Option V :=
  match x with
  | .tup l => l[i]?
  | _ => none

def fieldV (P : Program) (t : TypeId) (x : V) (f : Nat) : Option V :=
  match x, P.underlying t with
  | .agg cs, some (.struct fs) => match fs[f]? with
    | some fd => match tAgg P fd.type, tSize P fd.type with
      | some ag, some n => if fd.offset + n ≤ cs.length then mkV ag ((cs.drop fd.offset).take n) else none
      | _, _ => none
    | none => none
  | _, _ => none

def evPure (P : Program) (ρ : Operand → V) (bx : Nat → Option (Nat × List C)) : Op → Option V
  | .move x | .assign x => some (ρ x)
  | .pick c a b => match ρ c with
    | .c (.bool t) => some (if t then ρ a else ρ b)
    | _ => none
  | .load t x => evLoad P bx t (ρ x)
  | .binOp op T x y _ => binV P op T (ρ x) (ρ y)
  | .unOp op _ x => unV op (ρ x)
  | .convert src dst x => convV P src dst (ρ x)
  | .fieldAddr s x f => fldAddrV P s f (ρ x)
  | .indexAddr t x i => idxAddrV P t (ρ x) (ρ i)
  | .index t x i => idxV P t (ρ x) (ρ i)
  | .slice t x lo hi mx => sliceV P t (ρ x) (lo.map ρ) (hi.map ρ) (mx.map ρ)
  | .extract x i => extV (ρ x) i
  | .nilCheck x => match ρ x with
    | .c (.box k b o) => some (.c (.box k b o))
    | .c (.el n es i o) => some (.c (.el n es i o))
    | _ => none
  | .makeFunc (.func f) first captured => if first.size = 0 then (capsOf (captured.toList.map ρ)).map fun cs => .c (.fn f cs) else none
  | .call { callee := .builtin .len, args, argTypes } => match args.toList, argTypes.toList with
    | [x], t :: _ => lenV P t (ρ x)
    | _, _ => none
  | .call { callee := .builtin .min, args, .. } => match args.toList with
    | [x, y] => minV (ρ x) (ρ y)
    | _ => none
  | .call { callee := .builtin .max, args, .. } => match args.toList with
    | [x, y] => maxV (ρ x) (ρ y)
    | _ => none
  | .call { callee := .builtin .cap, args, argTypes } => match args.toList, argTypes.toList with
    | [x], t :: _ => capV P t (ρ x)
    | _, _ => none
  | .lookup t x i ok => lookV P bx t (ρ x) (ρ i) ok
  | _ => none

section sound
variable {E : Env} {F : Nat → Nat → Prop} {st : St} {a : Act} {w : World} {P : Program}

theorem isTy_1 {t : TypeId} (h : isTy P t = 1) : P.underlying t = some .bool := by
  unfold isTy at h; split at h <;> first | assumption | simp at h
theorem isTy_2 {t : TypeId} (h : isTy P t = 2) : ∃ e, P.underlying t = some (.slice e) := by
  unfold isTy at h; split at h <;> first | exact ⟨_, by assumption⟩ | simp at h
theorem isTy_5 {t : TypeId} (h : isTy P t = 5) : P.underlying t = some (.int .u8) := by
  unfold isTy at h; split at h <;> first | assumption | simp at h
theorem isTy_6 {t : TypeId} (h : isTy P t = 6) : P.underlying t = some .string := by
  unfold isTy at h; split at h <;> first | assumption | simp at h
theorem iKind_some {t : TypeId} {k : IntKind} (h : iKind P t = some k) : P.underlying t = some (.int k) := by
  unfold iKind at h; split at h <;> first | (cases h; assumption) | cases h
theorem sElem_some {t e n : Nat} (h : sElem P t = some (e, n)) : P.underlying t = some (.slice e) ∧ tSize P e = some n := by
  unfold sElem at h
  split at h
  · rename_i e' hu
    cases hs : tSize P e' with
    | none => simp [hs] at h
    | some m => simp [hs] at h; obtain ⟨rfl, rfl⟩ := h; exact ⟨hu, hs⟩
  · cases h
theorem aInfo_some {t len e n : Nat} (h : aInfo P t = some (len, e, n)) : P.underlying t = some (.array len e) ∧ tSize P e = some n := by
  unfold aInfo at h
  split at h
  · rename_i len' e' hu
    cases hs : tSize P e' with
    | none => simp [hs] at h
    | some m => simp [hs] at h; obtain ⟨rfl, rfl, rfl⟩ := h; exact ⟨hu, hs⟩
  · cases h

theorem run_eqGuard_plain (op : BinOp) (t : TypeId) (x y : Operand) (u v : Value) (h1 : u ≠ .nilIface) (h2 : ∀ cs, u ≠ .agg cs) : (eqGuard op t x y u v).run P w = .ok () w := by
  unfold eqGuard
  cases u <;> first | exact absurd rfl h1 | exact absurd rfl (h2 _) | (cases op <;> simp)

theorem intV_run {op : BinOp} {T : TypeId} {k k' : IntKind} {x y : Int} {c : C} (hk : k = k' ∨ op = .shl ∨ op = .shr) (h : intV op k x y = some c) : ∃ u, (binOp op T (.int k x) (.int k' y)).run P w = .ok u w ∧ CR F w u c := by
  cases op
  case shl =>
    simp only [intV] at h; split at h; · cases h
    · cases h; exact ⟨_, by simp [binOp, Op.shift, *], .int _ _⟩
  case shr =>
    simp only [intV] at h; split at h; · cases h
    · cases h; exact ⟨_, by simp [binOp, Op.shift, *], .int _ _⟩
  all_goals
    have hkk : k = k' := by simpa using hk
    subst hkk
  case quo => simp only [intV] at h; split at h; · cases h
              · cases h; exact ⟨_, by simp [binOp, Op.intDiv, *], .int _ _⟩
  case rem => simp only [intV] at h; split at h; · cases h
              · cases h; exact ⟨_, by simp [binOp, Op.intDiv, *], .int _ _⟩
  all_goals
    simp only [intV, Option.some.injEq] at h
    subst h
  case add => exact ⟨.int k (k.wrap (x + y)), by simp [binOp, Op.intArith], .int _ _⟩
  case sub => exact ⟨.int k (k.wrap (x - y)), by simp [binOp, Op.intArith], .int _ _⟩
  case mul => exact ⟨.int k (k.wrap (x * y)), by simp [binOp, Op.intArith], .int _ _⟩
  case and => exact ⟨.int k (bitsV .and k x y), by simp only [binOp, ne_eq, not_true_eq_false, if_false, Op.intBits]; rfl, .int _ _⟩
  case or => exact ⟨.int k (bitsV .or k x y), by simp only [binOp, ne_eq, not_true_eq_false, if_false, Op.intBits]; rfl, .int _ _⟩
  case xor => exact ⟨.int k (bitsV .xor k x y), by simp only [binOp, ne_eq, not_true_eq_false, if_false, Op.intBits]; rfl, .int _ _⟩
  case andNot => exact ⟨.int k (bitsV .andNot k x y), by simp only [binOp, ne_eq, not_true_eq_false, if_false, Op.intBits]; rfl, .int _ _⟩
  case eql => exact ⟨.bool (x == y), by simp [binOp, Op.intCmp], .bool _⟩
  case neq => exact ⟨.bool (x != y), by simp [binOp, Op.intCmp], .bool _⟩
  case lss => exact ⟨.bool (decide (x < y)), by simp [binOp, Op.intCmp], .bool _⟩
  case leq => exact ⟨.bool (decide (x ≤ y)), by simp [binOp, Op.intCmp], .bool _⟩
  case gtr => exact ⟨.bool (decide (y < x)), by simp [binOp, Op.intCmp], .bool _⟩
  case geq => exact ⟨.bool (decide (y ≤ x)), by simp [binOp, Op.intCmp], .bool _⟩

theorem run_binDo (op : BinOp) (T : TypeId) (ox oy : Operand) (u v : Value) (h1 : u ≠ .nilIface) (h2 : ∀ cs, u ≠ .agg cs) :
    (do eqGuard op T ox oy u v; binOp op T u v : Sem Value).run P w = (binOp op T u v).run P w := by
  simp only [Sem.run_bind, run_eqGuard_plain op T ox oy u v h1 h2, Result.andThen_ok]

theorem ptrNil_sound {op : BinOp} {T : TypeId} (ox oy : Operand) (p : Option Addr) {z : V} (h : ptrNil P op T p.isNone = some z) :
    ∃ r, (do eqGuard op T ox oy (.pointer p) (.pointer none); binOp op T (.pointer p) (.pointer none) : Sem Value).run P w = .ok r w ∧ VR F w r z := by
  unfold ptrNil at h
  split at h
  · rename_i hp
    have hp := isPtr_some hp
    rw [run_binDo _ _ _ _ _ _ (by simp) (by simp)]
    split at h
    · cases h; exact ⟨_, run_eql_pointer_nil w T p hp, .c (.bool _)⟩
    · cases h; exact ⟨_, run_neq_pointer_nil w T p hp, .c (.bool _)⟩
    · cases h
  · cases h
theorem binV_sound {op : BinOp} {T : TypeId} {x y : V} {u v : Value} (ox oy : Operand) (hu : VR F w u x) (hv : VR F w v y) {z : V} (h : binV P op T x y = some z) :
    ∃ r, (do eqGuard op T ox oy u v; binOp op T u v : Sem Value).run P w = .ok r w ∧ VR F w r z := by
  unfold binV at h
  split at h
  · rename_i k a k' b
    have hu := hu.inv; cases hu
    have hv := hv.inv; cases hv
    rw [run_binDo _ _ _ _ _ _ (by simp) (by simp)]
    split at h
    · rename_i hk
      cases hi : intV op k a b with
      | none => rw [hi] at h; cases h
      | some c =>
        rw [hi] at h; cases h
        obtain ⟨r, hr, hc⟩ := intV_run (P := P) (w := w) (F := F) (T := T) hk hi
        exact ⟨r, hr, .c hc⟩
    · cases h
  · rename_i a b
    have hu := hu.inv; cases hu
    have hv := hv.inv; cases hv
    rw [run_binDo _ _ _ _ _ _ (by simp) (by simp)]
    cases hi : strV op a b with
    | none => rw [hi] at h; cases h
    | some c =>
      rw [hi] at h; cases h
      cases op <;> simp only [strV] at hi <;> first | cases hi | skip
      · split at hi
        · cases hi
        · rename_i hb
          cases hi
          exact ⟨.string (a ++ b), by simp only [binOp, Op.stringOp]; rw [if_neg hb]; rfl, .c (.str _)⟩
      · exact ⟨.bool (a.toList == b.toList), rfl, .c (.bool _)⟩
      · exact ⟨.bool (!(a.toList == b.toList)), rfl, .c (.bool _)⟩
  · rename_i a b
    have hu := hu.inv; cases hu
    have hv := hv.inv; cases hv
    rw [run_binDo _ _ _ _ _ _ (by simp) (by simp)]
    split at h
    · rename_i ht
      have ht := isTy_1 ht
      split at h
      · cases h; exact ⟨_, run_eql_bool _ _ _ _ ht, .c (.bool _)⟩
      · cases h; exact ⟨_, run_neq_bool _ _ _ _ ht, .c (.bool _)⟩
      · cases h
    · cases h
  · rename_i nl _ _ es _ _ es'
    split at h
    · rename_i ht
      obtain ⟨e, ht⟩ := isTy_2 ht
      have hv := hv.inv; cases hv
      have hu' : ∃ ad l c, u = .slice ad l c ∧ ad.isNone = nl := by
        have hu := hu.inv
        cases hu
        · exact ⟨_, _, _, rfl, rfl⟩
        · exact ⟨_, _, _, rfl, rfl⟩
      obtain ⟨ad, l, c, rfl, hn⟩ := hu'
      rw [run_binDo _ _ _ _ _ _ (by simp) (by simp)]
      split at h
      · cases h; subst hn; exact ⟨_, Lib.run_eql_slice_nil w T e ad l c 0 0 ht, .c (.bool _)⟩
      · cases h; subst hn; exact ⟨_, run_neq_slice_nil_any w T e ad l c 0 0 ht, .c (.bool _)⟩
      · cases h
    · cases h
  · have hu := hu.inv; cases hu
    have hv := hv.inv; cases hv
    exact ptrNil_sound ox oy (some _) h
  · have hu := hu.inv; cases hu
    have hv := hv.inv; cases hv
    exact ptrNil_sound ox oy (some _) h
  · have hu := hu.inv; cases hu
    have hv := hv.inv; cases hv
    exact ptrNil_sound ox oy none h
  · rename_i cs ds
    split at h
    · rename_i pl n hpl hn hagg
      split at h
      · rename_i hle
        split at h
        · rename_i b hb
          cases hu with
          | agg xs _ hxl hxr =>
          cases hv with
          | agg ys _ hyl hyr =>
          unfold eqT at hpl
          split at hpl
          · cases hpl
          · rename_i hg
            have hg : P.eqGuardType P.depth T = false := by simpa using hg
            obtain ⟨ag, n', hag, hn', _, hrun⟩ := eqPlan_sound (F := F) (w := w) 64 T 0 pl hpl
            rw [hn] at hn'; cases hn'
            have hagt : ag = true := by rw [hagg] at hag; exact (Option.some.inj hag).symm
            subst hagt
            have := hrun 10000 (by omega) xs ys cs ds b ⟨by omega, fun k hk => by simpa using hxr k (by omega)⟩ ⟨by omega, fun k hk => by simpa using hyr k (by omega)⟩ hb
            simp only [if_true] at this
            simp only [Sem.run_bind, run_eqGuard_agg w op T ox oy xs ys hg, Result.andThen_ok]
            split at h
            · cases h; exact ⟨.bool b, by rw [run_eql_struct, this]; rfl, .c (.bool _)⟩
            · cases h; exact ⟨.bool (!b), by rw [run_neq_struct, this]; rfl, .c (.bool _)⟩
            · cases h
        · cases h
      · cases h
    · cases h
  · cases h

theorem unV_sound {op : UnOp} {x : V} {u : Value} (hu : VR F w u x) {z : V} (h : unV op x = some z) : ∃ r, (Op.unary op u).run P w = .ok r w ∧ VR F w r z := by
  unfold unV at h
  split at h
  · have hu := hu.inv; cases hu; cases h; exact ⟨_, rfl, .c (.bool _)⟩
  · have hu := hu.inv; cases hu; cases h; exact ⟨_, rfl, .c (.int _ _)⟩
  · cases h

theorem fldAddrV_sound {s f : Nat} {x : V} {u : Value} (hu : VR F w u x) {z : V} (h : fldAddrV P s f x = some z) : ∃ r, (Instr.fieldAt s u f).run P w = .ok r w ∧ VR F w r z := by
  unfold fldAddrV at h
  split at h
  · rename_i d hd
    unfold fOff at hd
    split at hd
    · rename_i fs hu'
      split at hd
      · rename_i fd hfd
        split at hd
        · rename_i m hm
          cases hd
          have hrun : ∀ b o, (Instr.fieldAt s (.pointer (some ⟨b, o, none⟩)) f).run P w = .ok (.pointer (some ⟨b, o + fd.offset, none⟩)) w := by
            intro b o
            simp [Instr.fieldAt, run_underlying hu', hfd, Instr.sureAddr, fieldPlace, run_sizeOf hm, Addr.add_none]
          split at h
          · have hu := hu.inv; cases hu; cases h; exact ⟨_, hrun _ _, .c (.box _ _ _)⟩
          · rename_i n es i o
            have hu := hu.inv
            cases hu with
            | el b off _ _ _ _ cells hn hlen hF hc h1c hr =>
            cases h
            refine ⟨_, hrun _ _, .c ?_⟩
            rw [Nat.add_assoc]
            exact .el b off n es i (o + fd.offset) cells hn hlen hF hc h1c hr
          · cases h
        · cases hd
      · cases hd
    · cases hd
  · cases h

theorem idxAddrV_sound {t : TypeId} {x i : V} {u v : Value} (hu : VR F w u x) (hv : VR F w v i) {z : V} (h : idxAddrV P t x i = some z) :
    ∃ r, (Instr.indexAt t u v).run P w = .ok r w ∧ VR F w r z := by
  unfold idxAddrV at h
  split at h
  · rename_i k j
    have hv := hv.inv; cases hv
    split at h
    · rename_i nl n own es
      split at h
      · rename_i e m hs
        split at h
        · rename_i hcond
          obtain ⟨rfl, h0, h1⟩ := hcond
          cases h
          obtain ⟨ht, hm⟩ := sElem_some hs
          have hu := hu.inv
          cases hu with
          | nil => simp at h1
          | sl b off cap _ _ _ cells hle hn hlen hF hc h1c hr ho =>
          have hj : (j : Int) < (es.length : Nat) := by omega
          refine ⟨.pointer (some ⟨b, off + j.toNat * m + 0, none⟩), ?_, .c (.el b off m es j.toNat 0 cells hn hlen hF hc h1c hr)⟩
          simp [Instr.indexAt, asIntOf, run_underlying ht, run_sizeOf hm, h0, hj, Addr.add_none]
        · cases h
      · cases h
    · rename_i key b o
      split at h
      · rename_i len e m hs
        split at h
        · rename_i hcond
          obtain ⟨h0, h1⟩ := hcond
          cases h
          obtain ⟨ht, hm⟩ := aInfo_some hs
          have hu := hu.inv; cases hu
          have hj : (j : Int) < (len : Nat) := by omega
          refine ⟨.pointer (some ⟨b, o + j.toNat * m, none⟩), ?_, .c (.box _ _ _)⟩
          simp [Instr.indexAt, asIntOf, run_underlying ht, run_sizeOf hm, h0, hj, Addr.add_none, Instr.sureAddr]
        · cases h
      · cases h
    · rename_i n key b i0 len
      split at h
      · rename_i e m hs
        split at h
        · rename_i hcond
          obtain ⟨rfl, h0, h1⟩ := hcond
          cases h
          obtain ⟨ht, hm⟩ := sElem_some hs
          have hu := hu.inv
          cases hu with
          | ms _ o cap _ _ _ _ hle ho =>
          have hj : (j : Int) < (len : Nat) := by omega
          have ho' : o = i0 * m := ho.resolve_left (by omega)
          subst ho'
          refine ⟨.pointer (some ⟨b, i0 * m + j.toNat * m, none⟩), ?_, .c (by rw [← Nat.add_mul]; exact .box _ _ _)⟩
          simp [Instr.indexAt, asIntOf, run_underlying ht, run_sizeOf hm, h0, hj, Addr.add_none]
        · cases h
      · cases h
    · cases h
  · cases h

theorem lenV_sound {t : TypeId} {ts : Array TypeId} {ty : TypeId} {x : V} {u : Value} (hts : ts[0]? = some t) (hu : VR F w u x) {z : V} (h : lenV P t x = some z) :
    ∃ r, (Builtin.len_ ts ty #[u]).run P w = .ok r w ∧ VR F w r z := by
  unfold lenV at h
  split at h
  · rename_i nl n own es
    split at h
    · rename_i ht
      obtain ⟨e, ht⟩ := isTy_2 ht
      cases h
      have hu := hu.inv
      cases hu with
      | nil => exact ⟨.int .i64 ((0 : Nat) : Int), by simp [Builtin.len_, hts, run_underlying ht, goInt], .c (.int _ _)⟩
      | sl b off cap _ _ _ cells hle hn hlen hF hc h1c hr ho => exact ⟨.int .i64 (es.length : Nat), by simp [Builtin.len_, hts, run_underlying ht, goInt], .c (.int _ _)⟩
    · cases h
  · rename_i s
    split at h
    · rename_i ht
      have ht := isTy_6 ht
      cases h
      have hu := hu.inv; cases hu
      exact ⟨.int .i64 (s.size : Nat), by simp [Builtin.len_, hts, run_underlying ht, goInt], .c (.int _ _)⟩
    · cases h
  · rename_i len
    split at h
    · rename_i ht
      obtain ⟨e, ht⟩ := isTy_2 ht
      cases h
      have hu := hu.inv
      cases hu with
      | ms b o cap _ _ _ _ hle ho => exact ⟨.int .i64 (len : Nat), by simp [Builtin.len_, hts, run_underlying ht, goInt], .c (.int _ _)⟩
    · cases h
  · cases h

theorem capV_sound {t : TypeId} {ts : Array TypeId} {ty : TypeId} {x : V} {u : Value} (hts : ts[0]? = some t) (hu : VR F w u x) {z : V} (h : capV P t x = some z) :
    ∃ r, (Builtin.cap_ ts ty #[u]).run P w = .ok r w ∧ VR F w r z := by
  unfold capV at h
  split at h
  · split at h
    · rename_i ht
      obtain ⟨e, ht⟩ := isTy_2 ht
      cases h
      have hu := hu.inv
      cases hu with
      | nil => exact ⟨.int .i64 ((0 : Nat) : Int), by simp [Builtin.cap_, hts, run_underlying ht, goInt], .c (.int _ _)⟩
    · cases h
  · cases h

end sound
end Go.Vm
end
section
namespace Go.Vm
section sound
variable {E : Env} {F : Nat → Nat → Prop} {st : St} {a : Act} {w : World} {P : Program}

theorem run_part {t n : Nat} {ag : Bool} (hag : tAgg P t = some ag) (hsz : tSize P t = some n) (vs : Array Value) (off : Nat) (hl : off + n ≤ vs.size) (h1 : ag = false → n = 1) :
    (part t vs off).run P w = .ok (if ag then .agg ((vs.toList.drop off).take n).toArray else ((vs.toList.drop off).take n).getD 0 undef) w := by
  simp only [part, Sem.run_bind, run_isAgg hag, Result.andThen_ok]
  cases ag with
  | true =>
    simp only [if_true, Sem.run_bind, run_sizeOf hsz, Result.andThen_ok, Sem.run_pure]
    congr 2
    apply Array.ext'
    simp [Array.toList_extract]
  | false =>
    have hn := h1 rfl
    subst hn
    have : vs[off]? = some (vs[off]'(by omega)) := Array.getElem?_eq_getElem (by omega)
    simp only [Bool.false_eq_true, if_false, this, Sem.run_pure]
    congr 1
    rw [getD_eq, List.getElem?_take]
    simp only [Nat.zero_lt_one, if_true, List.getElem?_drop, Nat.add_zero, Array.getElem?_toList, this, Option.getD_some]

theorem part_sound {t n off : Nat} {ag : Bool} (hag : tAgg P t = some ag) (hsz : tSize P t = some n) {vs : Array Value} {cs : List C} (hl : vs.size = cs.length)
    (hr : ∀ k, k < cs.length → CR F w (vs.getD k undef) (cs.getD k .any)) (hle : off + n ≤ cs.length) {z : V} (h : mkV ag ((cs.drop off).take n) = some z) :
    ∃ r, (part t vs off).run P w = .ok r w ∧ VR F w r z := by
  have hll : ((vs.toList.drop off).take n).length = ((cs.drop off).take n).length := by simp; omega
  have hln : ((cs.drop off).take n).length = n := by simp; omega
  obtain ⟨h1, h2⟩ := VR_mkV (F := F) (w := w) (vs := (vs.toList.drop off).take n) hll (fun j hj => by
    rw [hln] at hj
    have := hr (off + j) (by omega)
    simpa [getD_eq, List.getElem?_take, List.getElem?_drop, hj, Array.getD_eq_getD_getElem?] using this) h
  exact ⟨_, run_part hag hsz vs off (by omega) (fun e => by rw [← hln]; exact h2 e), h1⟩

theorem fieldV_sound {t f : Nat} {x : V} {u : Value} (hu : VR F w u x) {z : V} (h : fieldV P t x f = some z) : ∃ r, (Instr.field t u f).run P w = .ok r w ∧ VR F w r z := by
  unfold fieldV at h
  split at h
  · rename_i cs fs hut
    split at h
    · rename_i fd hfd
      split at h
      · rename_i ag n hag hsz
        split at h
        · rename_i hle
          cases hu with
          | agg vs _ hl hr =>
          obtain ⟨r, h1, h2⟩ := part_sound hag hsz hl hr hle h
          exact ⟨r, by simp [Instr.field, run_underlying hut, hfd, asAgg, h1], h2⟩
        · cases h
      · cases h
    · cases h
  · cases h

theorem idxV_sound {t : TypeId} {x i : V} {u v : Value} (hu : VR F w u x) (hv : VR F w v i) {z : V} (h : idxV P t x i = some z) :
    ∃ r, (Instr.index t u v).run P w = .ok r w ∧ VR F w r z := by
  unfold idxV at h
  split at h
  · rename_i k j
    have hv := hv.inv; cases hv
    split at h
    · rename_i s
      split at h
      · rename_i hcond
        obtain ⟨ht, h0, h1⟩ := hcond
        have ht := isTy_6 ht
        cases h
        have hu := hu.inv; cases hu
        refine ⟨.int .u8 (byteAt s j.toNat), ?_, .c (.int _ _)⟩
        simp [Instr.index, asIntOf, run_underlying ht, h0, byteAt, h1]
      · cases h
    · rename_i cs
      split at h
      · rename_i len e m ha
        split at h
        · rename_i hcond
          obtain ⟨h0, h1, h2⟩ := hcond
          split at h
          · rename_i ag hag
            obtain ⟨ht, hm⟩ := aInfo_some ha
            cases hu with
            | agg vs _ hl hr =>
            obtain ⟨r, h3, h4⟩ := part_sound (off := j.toNat * m) hag hm hl hr h2 h
            have hj : (j : Int) < (len : Nat) := by omega
            exact ⟨r, by simp [Instr.index, asIntOf, run_underlying ht, h0, hj, run_sizeOf hm, h3], h4⟩
          · cases h
        · cases h
      · cases h
    · cases h
  · cases h

theorem intsOf_cons {e : List C} {es : List (List C)} {ns : List Int} (h : intsOf (e :: es) = some ns) : ∃ n r, e = [.int .u8 n] ∧ intsOf es = some r ∧ ns = n :: r := by
  unfold intsOf at h
  split at h
  · rename_i heq; cases heq
  · rename_i n r heq
    cases heq
    cases hr : intsOf es with
    | none => rw [hr] at h; cases h
    | some l => rw [hr] at h; cases h; exact ⟨n, l, rfl, rfl, rfl⟩
  · cases h

theorem intsOf_reads : ∀ (es : List (List C)) (ns : List Int) (cells : List Value), intsOf es = some ns → cells.length = es.length →
    (∀ k, k < cells.length → CR F w (cells.getD k undef) (es.flatten.getD k .any)) → (∀ e ∈ es, e.length = 1) → cells = ns.map (Value.int .u8) := by
  intro es
  induction es with
  | nil => intro ns cells h hl _ _; cases h; exact List.eq_nil_of_length_eq_zero hl
  | cons e es ih =>
    intro ns cells h hl hr h1
    obtain ⟨n, r, rfl, h2, rfl⟩ := intsOf_cons h
    match cells, hl with
    | c :: cells, hl =>
      have hc := hr 0 (by simp)
      simp at hc
      cases hc
      rw [List.map_cons, ih r cells h2 (by simpa using hl) (fun k hk => by have := hr (k + 1) (by simpa using hk); simpa using this) (fun e he => h1 e (List.mem_cons_of_mem _ he))]

theorem intsOf_len : ∀ (es : List (List C)) (ns : List Int), intsOf es = some ns → ∀ e ∈ es, e.length = 1 := by
  intro es
  induction es with
  | nil => intro _ _ x hx; cases hx
  | cons y es ih =>
    intro ns hi x hx
    obtain ⟨q, r, rfl, h2, rfl⟩ := intsOf_cons hi
    cases hx with
    | head => rfl
    | tail _ hx => exact ih r h2 x hx

theorem convV_sound {src dst : TypeId} {x : V} {u : Value} (hu : VR F w u x) {z : V} (h : convV P src dst x = some z) :
    ∃ r, (convert src dst u).run P w = .ok r w ∧ VR F w r z := by
  unfold convV at h
  split at h
  · rename_i k n
    have hu := hu.inv; cases hu
    split at h
    · rename_i q k' hq hk
      cases h
      refine ⟨.int k' (k'.wrap n), ?_, .c (.int _ _)⟩
      simp [convert, run_underlying (iKind_some hq), run_underlying (iKind_some hk), Conv.intToInt]
    · cases h
  · rename_i s
    split at h
    · rename_i hc
      cases h
      have hu := hu.inv; cases hu
      exact ⟨.string s, by simp [convert, run_underlying (isTy_6 hc.1), run_underlying (isTy_6 hc.2)], .c (.str _)⟩
    · cases h
  · rename_i nl n own es
    split at h
    · rename_i e hs
      split at h
      · rename_i hc
        obtain ⟨ht, hm⟩ := sElem_some hs
        cases hi : intsOf es with
        | none => rw [hi] at h; cases h
        | some ns =>
          rw [hi] at h; cases h
          refine ⟨.string (bytesOf ns), ?_, .c (.str _)⟩
          have hu := hu.inv
          cases hu with
          | nil =>
            cases hi
            rw [run_convert_bytes_string w src dst e _ _ _ ht (isTy_5 hc.1) (isTy_6 hc.2)]
            rfl
          | sl b off cap _ _ _ cells hle hn hlen hF hcl h1c hr ho =>
            rw [run_convert_bytes_string w src dst e _ _ _ ht (isTy_5 hc.1) (isTy_6 hc.2)]
            have hn1 := intsOf_len es ns hi
            have hl1 : cells.length = es.length := by
              rw [hlen]
              match es, hn, hn1 with
              | [], _, _ => simp
              | y :: es, hn, hn1 => rw [← hn y (List.mem_cons_self ..), hn1 y (List.mem_cons_self ..), Nat.mul_one]
            have hcells := intsOf_reads es ns cells hi hl1 hr hn1
            have := run_loadCells_list (P := P) w ⟨b, off, none⟩ cells fun j v hj => by
              have hjl := (List.getElem?_eq_some_iff.1 hj).1
              rw [Addr.add_none, hcl j hjl, hj]
            rw [hl1, hcells] at this
            exact run_bytesToString w ⟨b, off, none⟩ es.length cap ns this
      · cases h
    · cases h
  · cases h

theorem bndV_sound {d : Nat} {x : V} {v : Value} (hv : VR F w v x) {l : Nat} (h : bndV d (some x) = some l) : ∃ k j, v = .int k j ∧ 0 ≤ j ∧ l = j.toNat := by
  unfold bndV at h
  split at h
  · rename_i heq; cases heq
  · rename_i k j heq
    cases heq
    split at h
    · rename_i h0
      have hv := hv.inv; cases hv
      simp only [Option.some.injEq] at h
      exact ⟨_, _, rfl, h0, h.symm⟩
    · cases h
  · cases h

theorem run_bounds (isS : Bool) (len cap l h : Nat) (lo hi : Option Value) (hlo : (lo = none ∧ l = 0) ∨ ∃ k j, lo = some (.int k j) ∧ 0 ≤ j ∧ l = j.toNat)
    (hhi : (hi = none ∧ h = len) ∨ ∃ k j, hi = some (.int k j) ∧ 0 ≤ j ∧ h = j.toNat) (h1 : l ≤ h) (h2 : h ≤ len) (h3 : len ≤ cap) :
    (Instr.sliceBounds isS len cap lo hi none).run P w = .ok (l, h, cap) w := by
  rcases hlo with ⟨rfl, rfl⟩ | ⟨k, j, rfl, hj, rfl⟩ <;> rcases hhi with ⟨rfl, rfl⟩ | ⟨k', j', rfl, hj', rfl⟩
  · simp [Instr.sliceBounds]
  · have : j' ≤ (cap : Nat) := by omega
    simp [Instr.sliceBounds, run_sliceBound _ _ _ _ _ hj' this]
  · have : j ≤ (h : Nat) := by omega
    simp [Instr.sliceBounds, run_sliceBound _ _ _ _ _ hj this]
  · have a1 : j' ≤ (cap : Nat) := by omega
    have a2 : j ≤ (j'.toNat : Nat) := by omega
    simp [Instr.sliceBounds, run_sliceBound _ _ _ _ _ hj' a1, run_sliceBound _ _ _ _ _ hj a2]

end sound
end Go.Vm
end
section
namespace Go.Vm
section sound
variable {E : Env} {F : Nat → Nat → Prop} {st : St} {a : Act} {w : World} {P : Program}

theorem getElem?_flatten_take {α : Type} {n : Nat} (es : List (List α)) (h : ∀ e ∈ es, e.length = n) (l r k : Nat) (hk : k < (((es.take r).drop l).flatten).length) :
    ((es.take r).drop l).flatten[k]? = es.flatten[l * n + k]? := by
  have hu : ∀ e ∈ (es.take r).drop l, e.length = n := fun e he => h e (List.mem_of_mem_take (List.mem_of_mem_drop he))
  have hl := length_flatten_uniform _ hu
  have hn : 0 < n := by
    rcases Nat.eq_zero_or_pos n with h0 | h0
    · subst h0; rw [hl] at hk; simp at hk
    · exact h0
  rw [hl] at hk
  have hi : k / n < ((es.take r).drop l).length := (Nat.div_lt_iff_lt_mul hn).2 hk
  have hj : k % n < n := Nat.mod_lt _ hn
  have hkk : k / n * n + k % n = k := by rw [Nat.mul_comm]; exact Nat.div_add_mod k n
  generalize k / n = q at hi hkk
  generalize k % n = m at hj hkk
  subst hkk
  have e1 := getElem?_flatten_uniform _ q m _ hu (List.getElem?_eq_getElem hi) hj
  have hi2 : l + q < es.length := by simp at hi; omega
  have e2 := getElem?_flatten_uniform es (l + q) m _ h (List.getElem?_eq_getElem hi2) hj
  rw [show (l + q) * n + m = l * n + (q * n + m) by rw [Nat.add_mul]; omega] at e2
  rw [e1, e2]
  congr 1
  simp only [List.getElem_drop, List.getElem_take]

theorem bndV_some (d d' : Nat) (y : V) : bndV d (some y) = bndV d' (some y) := by
  cases y with
  | c x => cases x <;> rfl
  | agg => rfl
  | tup => rfl
theorem sliceV_sound {t : TypeId} {x : V} {u : Value} {lo hi mx : Option V} {lo' hi' mx' : Option Value} (hu : VR F w u x)
    (hlo : (lo = none ∧ lo' = none) ∨ ∃ y v, lo = some y ∧ lo' = some v ∧ VR F w v y) (hhi : (hi = none ∧ hi' = none) ∨ ∃ y v, hi = some y ∧ hi' = some v ∧ VR F w v y)
    (hmx : mx = none → mx' = none) {z : V} (h : sliceV P t x lo hi mx = some z) : ∃ r, (Instr.sliceAt t u lo' hi' mx').run P w = .ok r w ∧ VR F w r z := by
  have blo : ∀ l, bndV 0 lo = some l → (lo' = none ∧ l = 0) ∨ ∃ k j, lo' = some (.int k j) ∧ 0 ≤ j ∧ l = j.toNat := by
    intro l hl
    rcases hlo with ⟨rfl, rfl⟩ | ⟨y, v, rfl, rfl, hv⟩
    · cases hl; exact .inl ⟨rfl, rfl⟩
    · obtain ⟨k, j, rfl, h0, rfl⟩ := bndV_sound hv hl; exact .inr ⟨k, j, rfl, h0, rfl⟩
  have bhi : ∀ d l, bndV d hi = some l → (hi' = none ∧ l = d) ∨ ∃ k j, hi' = some (.int k j) ∧ 0 ≤ j ∧ l = j.toNat := by
    intro d l hl
    rcases hhi with ⟨rfl, rfl⟩ | ⟨y, v, rfl, rfl, hv⟩
    · cases hl; exact .inl ⟨rfl, rfl⟩
    · obtain ⟨k, j, rfl, h0, rfl⟩ := bndV_sound hv hl; exact .inr ⟨k, j, rfl, h0, rfl⟩
  unfold sliceV at h
  split at h
  · cases h
  · rw [hmx rfl]
    split at h
    · rename_i s
      split at h
      · rename_i l r hl hr
        split at h
        · rename_i hc
          obtain ⟨ht, h1, h2⟩ := hc
          have ht := isTy_6 ht
          cases h
          have hu := hu.inv; cases hu
          refine ⟨.string (s.extract l r), ?_, .c (.str _)⟩
          simp [Instr.sliceAt, Instr.slice, run_underlying ht, run_bounds false s.size s.size l r lo' hi' (blo l hl) (bhi s.size r hr) h1 h2 (Nat.le_refl _)]
        · cases h
      · cases h
    · rename_i nl n own es
      split at h
      · rename_i e m l r hs hl hr
        split at h
        · rename_i hc
          obtain ⟨hmn, h1, h2⟩ := hc
          cases h
          obtain ⟨ht, hm⟩ := sElem_some hs
          obtain ⟨own, hu⟩ : ∃ own, CR F w u (.sl nl m own es) := by
            rcases hmn with rfl | rfl
            · exact ⟨_, hu.inv⟩
            · refine ⟨none, ?_⟩
              have hu := hu.inv
              cases hu with
              | nil => exact .nil _ _
              | sl b off cap _ _ _ cells hle hn hlen hF hcl h1c hrr ho =>
                have h0 : cells.length = 0 := by simpa using hlen
                exact .sl b off cap m none [] cells hle (by simp) (by simp [h0]) (fun k hk => by omega) (fun k hk => by omega) h1c (fun k hk => by omega) (by simp)
          cases hu with
          | nil =>
            simp at h2
            subst h2
            have hl0 : l = 0 := by omega
            subst hl0
            refine ⟨.slice none 0 0, ?_, .c (.nil _ _)⟩
            simp [Instr.sliceAt, Instr.slice, run_underlying ht, run_bounds true 0 0 0 0 lo' hi' (blo 0 hl) (bhi 0 0 hr) (by omega) (by omega) (by omega), run_sizeOf hm]
          | sl b off cap _ _ _ cells hle hn hlen hF hcl h1c hrr ho =>
            have hbd : l * m ≤ cells.length := by rw [hlen]; exact Nat.mul_le_mul_right _ (by omega)
            have hll : ((es.take r).drop l).length = r - l := by simp; omega
            have hlc : ((cells.drop (l * m)).take ((r - l) * m)).length = (r - l) * m := by
              simp only [List.length_take, List.length_drop]
              have : l * m + (r - l) * m ≤ cells.length := by rw [← Nat.add_mul, hlen]; exact Nat.mul_le_mul_right _ (by omega)
              omega
            have base : ∀ b' off', (∀ k, k < (r - l) * m → F b' (off' + k) ∧ w.cell? ⟨b', off' + k, none⟩ = cells[l * m + k]?) →
                CR F w (.slice (some ⟨b', off', none⟩) (r - l) (cap - l)) (.sl false m none ((es.take r).drop l)) := by
              intro b' off' hb
              rw [← hll]
              refine .sl b' off' (cap - l) m none _ ((cells.drop (l * m)).take ((r - l) * m)) (by rw [hll]; omega) (fun e he => hn e (List.mem_of_mem_take (List.mem_of_mem_drop he))) ?_ ?_ ?_ (fun v hv => h1c v (List.mem_of_mem_drop (List.mem_of_mem_take hv))) ?_ (by simp)
              · rw [hlc, hll]
              · intro k hk; rw [hlc] at hk; exact (hb k hk).1
              · intro k hk; rw [hlc] at hk; rw [(hb k hk).2]; simp [List.getElem?_drop, hk]
              · intro k hk
                rw [hlc] at hk
                have hu' : ∀ e ∈ (es.take r).drop l, e.length = m := fun e he => hn e (List.mem_of_mem_take (List.mem_of_mem_drop he))
                have hkl : k < (((es.take r).drop l).flatten).length := by rw [length_flatten_uniform _ hu', hll]; exact hk
                have hkc : l * m + k < cells.length := by
                  have : l * m + (r - l) * m ≤ cells.length := by rw [← Nat.add_mul, hlen]; exact Nat.mul_le_mul_right _ (by omega)
                  omega
                have := hrr (l * m + k) hkc
                rw [getD_eq ((es.take r).drop l).flatten, getElem?_flatten_take es hn l r k hkl]
                simpa [getD_eq, List.getElem?_drop, hk] using this
            have hrun : (Instr.sliceAt t (.slice (some ⟨b, off, none⟩) es.length cap) lo' hi' none).run P w = .ok (.slice (if cap = l then some ⟨b, off, none⟩ else some ⟨b, off + l * m, none⟩) (r - l) (cap - l)) w := by
              simp only [Instr.sliceAt, Instr.slice, Sem.run_bind, run_underlying ht, Result.andThen_ok, run_bounds true es.length cap l r lo' hi' (blo l hl) (bhi es.length r hr) h1 h2 hle, run_sizeOf hm, Sem.run_pure]
              split <;> simp [Addr.add_none]
            refine ⟨_, hrun, .c ?_⟩
            by_cases hcap : cap = l
            · rw [if_pos hcap]
              refine base b off fun k hk => ?_
              have : r - l = 0 := by omega
              rw [this, Nat.zero_mul] at hk
              omega
            · rw [if_neg hcap]
              refine base b (off + l * m) fun k hk => ?_
              have hkc : l * m + k < cells.length := by
                have : l * m + (r - l) * m ≤ cells.length := by rw [← Nat.add_mul, hlen]; exact Nat.mul_le_mul_right _ (by omega)
                omega
              rw [Nat.add_assoc]
              exact ⟨hF _ hkc, hcl _ hkc⟩
        · cases h
      · cases h
    · rename_i n key b
      split at h
      · rename_i e m hs hl hi0 hr
        split at h
        · rename_i hmn
          subst hmn
          cases h
          obtain ⟨ht, hm⟩ := sElem_some hs
          have hu := hu.inv
          cases hu with
          | room _ cap m' _ _ e' hmc hsh =>
          have hb := bhi m' 0 (by cases hi with
            | none => simp at hi0
            | some y => rw [bndV_some m' 0]; exact hr)
          refine ⟨.slice (some ⟨b, 0, none⟩) 0 cap, ?_, .c (.sl b 0 cap m (some (key, b)) [] [] (by simp) (by simp) (by simp) (by simp) (by simp) (by simp) (by simp) (fun k b' e => by cases e; exact ⟨rfl, rfl, e', hsh⟩))⟩
          have hrun := run_bounds (P := P) (w := w) true m' cap 0 0 lo' hi' (blo 0 hl) hb (Nat.le_refl _) (by omega) hmc
          simp only [Instr.sliceAt, Instr.slice, Sem.run_bind, run_underlying ht, Result.andThen_ok, hrun, run_sizeOf hm, Sem.run_pure]
          split <;> simp [Addr.add_none]
        · cases h
      · cases h
    · rename_i n key b i len
      split at h
      · rename_i e m l r hs hl hr
        split at h
        · rename_i hc
          obtain ⟨rfl, h1, h2⟩ := hc
          cases h
          obtain ⟨ht, hm⟩ := sElem_some hs
          have hu := hu.inv
          cases hu with
          | ms _ o cap _ _ _ _ hle ho =>
          have hrun : (Instr.sliceAt t (.slice (some ⟨b, o, none⟩) len cap) lo' hi' none).run P w = .ok (.slice (if cap = l then some ⟨b, o, none⟩ else some ⟨b, o + l * m, none⟩) (r - l) (cap - l)) w := by
            simp only [Instr.sliceAt, Instr.slice, Sem.run_bind, run_underlying ht, Result.andThen_ok, run_bounds true len cap l r lo' hi' (blo l hl) (bhi len r hr) h1 h2 hle, run_sizeOf hm, Sem.run_pure]
            split <;> simp [Addr.add_none]
          refine ⟨_, hrun, .c ?_⟩
          by_cases hcap : cap = l
          · rw [if_pos hcap]
            exact .ms b o (cap - l) m key (i + l) (r - l) (by omega) (.inl (by omega))
          · rw [if_neg hcap]
            refine .ms b (o + l * m) (cap - l) m key (i + l) (r - l) (by omega) ?_
            rcases ho with ho | ho
            · exact .inl (by omega)
            · exact .inr (by rw [ho, Nat.add_mul])
        · cases h
      · cases h
    · cases h

theorem capsOf_reads : ∀ (l : List V) (vs : List Value) (cs : List C), capsOf l = some cs → vs.length = l.length →
    (∀ k, k < l.length → VR F w (vs.getD k undef) (l.getD k (.c .any))) → cs.length = l.length ∧ ∀ k, k < cs.length → CR F w (vs.getD k undef) (cs.getD k .any) := by
  intro l
  induction l with
  | nil => intro vs cs h hl _; cases h; exact ⟨rfl, fun k hk => by simp at hk⟩
  | cons x l ih =>
    intro vs cs h hl hr
    unfold capsOf at h
    split at h
    · rename_i heq; cases heq
    · rename_i c r heq
      cases heq
      cases hc : capsOf l with
      | none => rw [hc] at h; cases h
      | some r' =>
        rw [hc] at h; cases h
        match vs, hl with
        | v :: vs, hl =>
          obtain ⟨h1, h2⟩ := ih vs r' hc (by simpa using hl) (fun k hk => by have := hr (k + 1) (by simpa using hk); simpa using this)
          refine ⟨by simp [h1], fun k hk => ?_⟩
          match k with
          | 0 => have := hr 0 (by simp); simp at this; simpa using this.inv
          | k + 1 => simpa using h2 k (by simpa using hk)
    · cases h

theorem pure_sound (h : Rel E F st a w) {o : Oper} {z : V} (hz : evPure P st.ev st.bx o.op = some z) : ∃ r, (execOp a.eval o).run P w = .ok (.value r) w ∧ VR F w r z := by
  obtain ⟨dst, op, type, pos, after, guard⟩ := o
  simp only at hz
  have lift : ∀ {s : Sem Value}, (∃ r, s.run P w = .ok r w ∧ VR F w r z) → ∃ r, ((do pure (.value (← s)) : Sem Next)).run P w = .ok (.value r) w ∧ VR F w r z := by
    rintro s ⟨r, h1, h2⟩
    exact ⟨r, by simp [h1], h2⟩
  unfold evPure at hz
  split at hz
  · cases hz; exact ⟨_, rfl, h.ev _⟩
  · cases hz; exact ⟨_, rfl, h.ev _⟩
  · rename_i c x y
    split at hz
    · rename_i t ht
      cases hz
      have hc := h.ev c
      rw [ht] at hc
      have hc := hc.inv
      generalize hcc : a.eval c = v at hc
      cases hc
      refine ⟨if t then a.eval x else a.eval y, by simp [execOp, hcc, asBool], ?_⟩
      cases t
      · exact h.ev y
      · exact h.ev x
    · cases hz
  · exact lift (load_sound h (h.ev _) hz)
  · exact lift (binV_sound _ _ (h.ev _) (h.ev _) hz)
  · exact lift (unV_sound (h.ev _) hz)
  · exact lift (convV_sound (h.ev _) hz)
  · exact lift (fldAddrV_sound (h.ev _) hz)
  · exact lift (idxAddrV_sound (h.ev _) (h.ev _) hz)
  · exact lift (idxV_sound (h.ev _) (h.ev _) hz)
  · rename_i t x lo hi mx
    refine lift (sliceV_sound (h.ev _) ?_ ?_ ?_ hz)
    · cases lo with
      | none => exact .inl ⟨rfl, rfl⟩
      | some y => exact .inr ⟨_, _, rfl, rfl, h.ev y⟩
    · cases hi with
      | none => exact .inl ⟨rfl, rfl⟩
      | some y => exact .inr ⟨_, _, rfl, rfl, h.ev y⟩
    · cases mx with
      | none => exact fun _ => rfl
      | some y => exact fun e => by cases e
  · rename_i x i
    refine lift ?_
    unfold extV at hz
    split at hz
    · rename_i l hl
      have hx := h.ev x
      rw [hl] at hx
      generalize a.eval x = v at hx
      cases hx with
      | tup vs _ hs hr =>
      have hil : i < l.length := (List.getElem?_eq_some_iff.1 hz).1
      have := hr i hil
      simp only [getD_eq, hz, Option.getD_some] at this
      have hv : vs[i]? = some (vs.getD i undef) := by simp [Array.getD_eq_getD_getElem?, Array.getElem?_eq_getElem (show i < vs.size by omega)]
      exact ⟨vs.getD i undef, by simp only [Instr.extract, hv]; rfl, this⟩
    · cases hz
  · rename_i x
    have hx := h.ev x
    split at hz
    · rename_i k b o heq
      cases hz
      rw [heq] at hx
      have hx := hx.inv
      generalize hcc : a.eval x = v at hx
      cases hx
      exact ⟨_, by simp only [execOp, hcc]; rfl, .c (.box _ _ _)⟩
    · rename_i n es i o heq
      cases hz
      rw [heq] at hx
      have hx := hx.inv
      generalize hcc : a.eval x = v at hx
      cases hx with
      | el b off _ _ _ _ cells hn hlen hF hc h1c hr => exact ⟨_, by simp only [execOp, hcc]; rfl, .c (.el b off n es i o cells hn hlen hF hc h1c hr)⟩
    · cases hz
  · rename_i f first captured
    split at hz
    · rename_i hfirst
      cases hc : capsOf (captured.toList.map st.ev) with
      | none => rw [hc] at hz; cases hz
      | some cs =>
        rw [hc] at hz; cases hz
        obtain ⟨h1, h2⟩ := capsOf_reads (F := F) (w := w) (captured.toList.map st.ev) (captured.toList.map a.eval) cs hc (by simp) (fun k hk => by
          have hk' : k < captured.size := by simpa using hk
          have := h.ev captured[k]
          simpa [getD_eq, hk'] using this)
        have hf0 : first = #[] := by simpa using hfirst
        subst hf0
        refine ⟨.func (.func f) #[] (captured.toList.map a.eval).toArray, ?_, .c (.fn f cs _ (by simp [h1]) h2)⟩
        rw [show (captured.toList.map a.eval).toArray = captured.map a.eval from by rw [← Array.toList_map, Array.toArray_toList]]
        simp [execOp, Instr.makeFunc]
    · cases hz
  · rename_i args argTypes
    split at hz
    · rename_i x t ts ha ht
      have ha' : args = #[x] := by rw [← Array.toArray_toList (xs := args), ha]
      have ht' : argTypes[0]? = some t := by rw [← Array.getElem?_toList, ht]; rfl
      subst ha'
      obtain ⟨r, h1, h2⟩ := lenV_sound (ts := argTypes) (ty := type) ht' (h.ev x) hz
      refine ⟨r, ?_, h2⟩
      simp [execOp, resolve, invoke, builtin, h1]
    · cases hz
  · rename_i args argTypes
    split at hz
    · rename_i x y ha
      have ha' : args = #[x, y] := by rw [← Array.toArray_toList (xs := args), ha]
      subst ha'
      unfold minV at hz
      split at hz
      · rename_i k p k' q e1 e2
        cases hz
        have hx := h.ev x; rw [e1] at hx; have hx := hx.inv
        have hy := h.ev y; rw [e2] at hy; have hy := hy.inv
        generalize hcx : a.eval x = vx at hx
        generalize hcy : a.eval y = vy at hy
        cases hx; cases hy
        refine ⟨_, ?_, .c (.int _ _)⟩
        simp only [execOp, resolve, invoke, builtin, Sem.run_bind, Sem.run_pure, Result.andThen_ok, List.map_toArray, List.map_cons, List.map_nil, hcx, hcy, run_min_int2]
      · cases hz
    · cases hz
  · rename_i args argTypes
    split at hz
    · rename_i x y ha
      have ha' : args = #[x, y] := by rw [← Array.toArray_toList (xs := args), ha]
      subst ha'
      unfold maxV at hz
      split at hz
      · rename_i k p k' q e1 e2
        cases hz
        have hx := h.ev x; rw [e1] at hx; have hx := hx.inv
        have hy := h.ev y; rw [e2] at hy; have hy := hy.inv
        generalize hcx : a.eval x = vx at hx
        generalize hcy : a.eval y = vy at hy
        cases hx; cases hy
        refine ⟨_, ?_, .c (.int _ _)⟩
        simp only [execOp, resolve, invoke, builtin, Sem.run_bind, Sem.run_pure, Result.andThen_ok, List.map_toArray, List.map_cons, List.map_nil, hcx, hcy, run_max_int2, gt_iff_lt]
      · cases hz
    · cases hz
  · rename_i args argTypes
    split at hz
    · rename_i x t ts ha ht
      have ha' : args = #[x] := by rw [← Array.toArray_toList (xs := args), ha]
      have ht' : argTypes[0]? = some t := by rw [← Array.getElem?_toList, ht]; rfl
      subst ha'
      obtain ⟨r, h1, h2⟩ := capV_sound (ts := argTypes) (ty := type) ht' (h.ev x) hz
      refine ⟨r, ?_, h2⟩
      simp [execOp, resolve, invoke, builtin, h1]
    · cases hz
  · exact lift (lookV_sound h (h.ev _) (h.ev _) hz)
  · cases hz

end sound
end Go.Vm
end
section
namespace Go.Vm

def tZero (P : Program) (t : TypeId) : Option (List C) :=
  match P.info? t with
  | some i => match i.zero with
    | some v => some (v.cells.toList.map cOf)
    | none => none
  | none => none
def tBytes (P : Program) (t : TypeId) : Option Nat := (P.info? t).map (·.bytes)

section
variable {E : Env} {F F' : Nat → Nat → Prop} {st : St} {a : Act} {w w' : World} {P : Program}

theorem run_zeroValue {t : TypeId} {cs : List C} (h : tZero P t = some cs) (w : World) : ∃ v i, P.info? t = some i ∧ i.zero = some v ∧ (zeroValue t).run P w = .ok v w ∧ cs = v.cells.toList.map cOf := by
  unfold tZero at h
  split at h
  · rename_i i hi
    split at h
    · rename_i v hv
      cases h
      exact ⟨v, i, hi, hv, by simp [zeroValue, typeInfo, hi, hv], rfl⟩
    · cases h
  · cases h

theorem shape_lt {b : Nat} {s : TypeId × Nat} (h : w.shape? b = some s) : b < w.heap.size := by
  unfold World.shape? at h
  split at h
  · rename_i h'; exact (Array.getElem?_eq_some_iff.1 h').1
  · cases h

theorem Stp.of_blocks (hfs : ∀ b o, F b o → b < w.heap.size) (hblk : ∀ k, k < w.heap.size → w'.heap[k]? = w.heap[k]?) : Stp F w w' :=
  ⟨fun b o h => by simp only [World.cell?, hblk b (hfs b o h)], fun b s h => by have := shape_lt h; simp only [World.shape?, hblk b this] at h ⊢; exact h⟩

theorem heap_lt {b : Nat} {o : Obj} (h : w.heap[b]? = some o) : b < w.heap.size := (Array.getElem?_eq_some_iff.1 h).1

theorem Rel.grow (h : Rel E F st a w) (hos : w'.os = w.os) (htape : w'.tape = w.tape) (hout : w'.output = w.output) (hsz : w.heap.size ≤ w'.heap.size)
    (hblk : ∀ k, k < w.heap.size → w'.heap[k]? = w.heap[k]?) (hF : ∀ b o, F b o → F' b o) (hFn : ∀ b o, F' b o → F b o ∨ w.heap.size ≤ b)
    (hfs : ∀ b o, F' b o → b < w'.heap.size) : Rel E F' st a w' := by
  have hs : Stp F w w' := .of_blocks h.fs hblk
  exact
    { defers := h.defers
      size := h.size
      os := hos.trans h.os
      tape := htape.trans h.tape
      output := hout.trans h.output
      hsz := Nat.le_trans h.hsz hsz
      old := fun k hk hp => (hblk k (Nat.lt_of_lt_of_le hk h.hsz)).trans (h.old k hk hp)
      stp := h.stp.trans hs h.f0
      f0 := fun b o hb => hF b o (h.f0 b o hb)
      fn := fun b o hb => (hFn b o hb).elim (h.fn b o) fun hge => .inr (.inl (Nat.le_trans h.hsz hge))
      fs := hfs
      slots := fun t => (h.slots t).mono hs hF
      boxes := fun k b cs hb => by
        obtain ⟨h1, h4, h5⟩ := h.boxes k b cs hb
        have hl := h1.lt
        exact ⟨h1.mono (hblk b hl) hs hF, h4, fun o ho => (hFn b o ho).elim (h5 o) (by omega)⟩
      boxd := h.boxd
      rows := fun k b len e n hb => by
        obtain ⟨cells, cap, h1, h2, h3, h4, h5, h6⟩ := h.rows k b len e n hb
        have hl := heap_lt h1
        exact ⟨cells, cap, (hblk b hl).trans h1, h2, h3, h4, h5, fun o ho => (hFn b o ho).elim (h6 o) (by omega)⟩
      rowd := h.rowd
      boxrow := h.boxrow }

theorem Rel.newBox (h : Rel E F st a w) (key : Nat) (cells : Array Value) (cs : List C) (T : TypeId) (hsize : cs.length ≤ cells.size)
    (hcr : ∀ k, k < cs.length → CR F w (cells.getD k undef) (cs.getD k .any)) :
    Rel E F { st with bx := upd st.bx key (some (w.heap.size, cs)) } a (w.alloc (.cells cells T)) := by
  have hg : Rel E F st a (w.alloc (.cells cells T)) := h.grow rfl rfl rfl (by simp) (fun k hk => Go.RowKit.Below.heap_alloc w _ k hk) (fun _ _ x => x) (fun _ _ x => .inl x) (fun b o x => by have := h.fs b o x; simp; omega)
  have hs : Stp F w (w.alloc (.cells cells T)) := .of_blocks h.fs fun k hk => Go.RowKit.Below.heap_alloc w _ k hk
  have hlt : ∀ k b cs, st.bx k = some (b, cs) → b < w.heap.size := fun k b cs hb => by
    exact (h.boxes k b cs hb).1.lt
  have hltr : ∀ k b l e n, st.rw k = some (b, l, e, n) → b < w.heap.size := fun k b l e n hb => by
    obtain ⟨_, _, h1, _⟩ := h.rows k b l e n hb; exact heap_lt h1
  exact
    { hg with
      boxes := fun k b cs' hb => by
        simp only [upd] at hb
        split at hb
        · cases hb
          exact ⟨.cells _ cells T (heap_alloc_new w _) hsize fun k hk => (hcr k hk).mono hs fun _ _ x => x, .inl h.hsz, fun o ho => by have := h.fs _ o ho; omega⟩
        · exact hg.boxes k b cs' hb
      boxd := fun k k' b cs1 cs2 h1 h2 => by
        simp only [upd] at h1 h2
        split at h1 <;> split at h2
        · subst_vars; rfl
        · cases h1; have := hlt _ _ _ h2; omega
        · cases h2; have := hlt _ _ _ h1; omega
        · exact h.boxd k k' b cs1 cs2 h1 h2
      boxrow := fun k k' b cs1 l e n h1 h2 => by
        simp only [upd] at h1
        split at h1
        · cases h1; have := hltr _ _ _ _ _ h2; omega
        · exact h.boxrow k k' b cs1 l e n h1 h2 }

/-- A block's cells are written: which data stays. -/
theorem Stp.setRow {b : Nat} {cells cells' : Array Value} {T : TypeId} (hheap : w.heap[b]? = some (.cells cells T (0, 0))) (hsz : cells'.size = cells.size)
    (hsame : ∀ o, F b o → cells'[o]? = cells[o]?) : Stp F w (w.setRow b cells') := by
  refine ⟨fun b' o hf => ?_, fun b' s hs => ?_⟩
  · by_cases e : b' = b
    · subst e
      rw [cell_of_row _ b' o cells' T (0, 0) (setRow_heap w b' cells cells' T (0, 0) hheap), cell_of_row w b' o cells T (0, 0) hheap]
      exact hsame o hf
    · simp only [World.cell?, setRow_other w b b' cells' e]
  · by_cases e : b' = b
    · subst e
      simp only [World.shape?, setRow_heap w b' cells cells' T (0, 0) hheap, hheap] at hs ⊢
      rw [hsz]; exact hs
    · simp only [World.shape?, setRow_other w b b' cells' e] at hs ⊢
      exact hs

theorem Rel.setBox (h : Rel E F st a w) {k b : Nat} {cs cs' : List C} {cells cells' : Array Value} {T : TypeId} (hb : st.bx k = some (b, cs)) (hheap : w.heap[b]? = some (.cells cells T (0, 0)))
    (hsz : cells'.size = cells.size) (hl : cs'.length ≤ cells'.size) (hcr : ∀ j, j < cs'.length → CR F w (cells'.getD j undef) (cs'.getD j .any)) :
    Rel E F { st with bx := upd st.bx k (some (b, cs')) } a (w.setRow b cells') := by
  obtain ⟨_, h4, h5⟩ := h.boxes k b cs hb
  have hs : Stp F w (w.setRow b cells') := .setRow hheap hsz fun o ho => absurd ho (h5 o)
  have hrow := setRow_heap w b cells cells' T (0, 0) hheap
  exact
    { defers := h.defers
      size := h.size
      os := h.os
      tape := h.tape
      output := h.output
      hsz := by rw [size_setRow]; exact h.hsz
      old := fun k' hk hp => by
        have : k' ≠ b := fun e => by
          subst e
          rcases h4 with h4 | h4
          · omega
          · exact hp h4
        rw [setRow_other w b k' cells' this]
        exact h.old k' hk hp
      stp := h.stp.trans hs h.f0
      f0 := h.f0
      fn := h.fn
      fs := fun b' o x => by rw [size_setRow]; exact h.fs b' o x
      slots := fun t => (h.slots t).mono hs fun _ _ x => x
      boxes := fun k' b' cs1 hb' => by
        simp only [upd] at hb'
        split at hb'
        · cases hb'
          exact ⟨.cells _ cells' T hrow hl fun j hj => (hcr j hj).mono hs fun _ _ x => x, h4, h5⟩
        · rename_i hk
          have hne : b' ≠ b := fun e => hk (by subst e; exact h.boxd k' k b' cs1 cs hb' hb)
          obtain ⟨g1, g4, g5⟩ := h.boxes k' b' cs1 hb'
          exact ⟨g1.mono (setRow_other w b b' cells' hne) hs fun _ _ x => x, g4, g5⟩
      boxd := fun k1 k2 b' cs1 cs2 h1 h2 => by
        simp only [upd] at h1 h2
        split at h1 <;> split at h2
        · subst_vars; rfl
        · cases h1; rename_i e1 _; subst e1; exact h.boxd _ _ _ _ _ hb h2
        · cases h2; rename_i e2; subst e2; exact h.boxd _ _ _ _ _ h1 hb
        · exact h.boxd k1 k2 b' cs1 cs2 h1 h2
      rows := fun k' b' len e n hb' => by
        obtain ⟨c1, cap, g1, g2, g3, g4, g5, g6⟩ := h.rows k' b' len e n hb'
        have hne : b' ≠ b := fun e' => by subst e'; exact h.boxrow _ _ _ _ _ _ _ hb hb'
        exact ⟨c1, cap, (setRow_other w b b' cells' hne).trans g1, g2, g3, g4, g5, g6⟩
      rowd := h.rowd
      boxrow := fun k1 k2 b' cs1 l e n h1 h2 => by
        simp only [upd] at h1
        split at h1
        · cases h1; exact h.boxrow _ _ _ _ _ _ _ hb h2
        · exact h.boxrow k1 k2 b' cs1 l e n h1 h2 }

theorem Stp.setObj {b : Nat} {o : Obj} (h5 : ∀ o', ¬ F b o') (hnc : ∀ cells T s, w.heap[b]? ≠ some (.cells cells T s)) : Stp F w { w with heap := w.heap.setIfInBounds b o } := by
  have hother : ∀ j, j ≠ b → (w.heap.setIfInBounds b o)[j]? = w.heap[j]? := fun j hj => by rw [Array.getElem?_setIfInBounds, if_neg (fun e => hj e.symm)]
  refine ⟨fun b' o' hf => ?_, fun b' s hsh => ?_⟩
  · have hne : b' ≠ b := fun e => by subst e; exact h5 o' hf
    simp only [World.cell?, hother b' hne]
  · by_cases e : b' = b
    · subst e
      exfalso
      unfold World.shape? at hsh
      split at hsh
      · rename_i hh; exact hnc _ _ _ hh
      · cases hsh
    · simp only [World.shape?, hother b' e] at hsh ⊢
      exact hsh
/-- An object that is no row of cells is replaced. -/
theorem Rel.setObj (h : Rel E F st a w) {k b : Nat} {cs cs' : List C} {o : Obj} (hb : st.bx k = some (b, cs)) (hnc : ∀ cells T s, w.heap[b]? ≠ some (.cells cells T s)) (hnc' : ∀ cells T s, o ≠ .cells cells T s)
    (hok : Stp F w { w with heap := w.heap.setIfInBounds b o } → ObjOk F { w with heap := w.heap.setIfInBounds b o } b cs') : Rel E F { st with bx := upd st.bx k (some (b, cs')) } a { w with heap := w.heap.setIfInBounds b o } := by
  obtain ⟨hob, h4, h5⟩ := h.boxes k b cs hb
  have hlt := hob.lt
  have hother : ∀ j, j ≠ b → (w.heap.setIfInBounds b o)[j]? = w.heap[j]? := fun j hj => by rw [Array.getElem?_setIfInBounds, if_neg (fun e => hj e.symm)]
  have hs : Stp F w { w with heap := w.heap.setIfInBounds b o } := by
    refine ⟨fun b' o' hf => ?_, fun b' s hsh => ?_⟩
    · have hne : b' ≠ b := fun e => by subst e; exact h5 o' hf
      simp only [World.cell?, hother b' hne]
    · by_cases e : b' = b
      · subst e
        exfalso
        unfold World.shape? at hsh
        split at hsh
        · rename_i hh; exact hnc _ _ _ hh
        · cases hsh
      · simp only [World.shape?, hother b' e] at hsh ⊢
        exact hsh
  exact
    { defers := h.defers
      size := h.size
      os := h.os
      tape := h.tape
      output := h.output
      hsz := by simpa using h.hsz
      old := fun k' hk hp => by
        have : k' ≠ b := fun e => by
          subst e
          rcases h4 with h4 | h4
          · omega
          · exact hp h4
        show (w.heap.setIfInBounds b o)[k']? = _
        rw [hother k' this]
        exact h.old k' hk hp
      stp := h.stp.trans hs h.f0
      f0 := h.f0
      fn := h.fn
      fs := fun b' o' x => by simpa using h.fs b' o' x
      slots := fun t => (h.slots t).mono hs fun _ _ x => x
      boxes := fun k' b' cs1 hb' => by
        simp only [upd] at hb'
        split at hb'
        · cases hb'
          exact ⟨hok hs, h4, h5⟩
        · rename_i hk
          have hne : b' ≠ b := fun e => hk (by subst e; exact h.boxd k' k b' cs1 cs hb' hb)
          obtain ⟨g1, g4, g5⟩ := h.boxes k' b' cs1 hb'
          exact ⟨g1.mono (hother b' hne) hs fun _ _ x => x, g4, g5⟩
      boxd := fun k1 k2 b' cs1 cs2 h1 h2 => by
        simp only [upd] at h1 h2
        split at h1 <;> split at h2
        · subst_vars; rfl
        · cases h1; rename_i e1 _; subst e1; exact h.boxd _ _ _ _ _ hb h2
        · cases h2; rename_i e2; subst e2; exact h.boxd _ _ _ _ _ h1 hb
        · exact h.boxd k1 k2 b' cs1 cs2 h1 h2
      rows := fun k' b' len e n hb' => by
        obtain ⟨c1, cap, g1, g2, g3, g4, g5, g6⟩ := h.rows k' b' len e n hb'
        have hne : b' ≠ b := fun e' => by subst e'; exact hnc _ _ _ g1
        exact ⟨c1, cap, (hother b' hne).trans g1, g2, g3, g4, g5, g6⟩
      rowd := h.rowd
      boxrow := fun k1 k2 b' cs1 l e n h1 h2 => by
        simp only [upd] at h1
        split at h1
        · cases h1; exact h.boxrow _ _ _ _ _ _ _ hb h2
        · exact h.boxrow k1 k2 b' cs1 l e n h1 h2 }
theorem Rel.newObj (h : Rel E F st a w) (key : Nat) (o : Obj) (cs : List C) (hok : ObjOk F (w.alloc o) w.heap.size cs) :
    Rel E F { st with bx := upd st.bx key (some (w.heap.size, cs)) } a (w.alloc o) := by
  have hg : Rel E F st a (w.alloc o) := h.grow rfl rfl rfl (by simp) (fun k hk => Go.RowKit.Below.heap_alloc w _ k hk) (fun _ _ x => x) (fun _ _ x => .inl x) (fun b o x => by have := h.fs b o x; simp; omega)
  have hlt : ∀ k b cs, st.bx k = some (b, cs) → b < w.heap.size := fun k b cs hb => (h.boxes k b cs hb).1.lt
  have hltr : ∀ k b l e n, st.rw k = some (b, l, e, n) → b < w.heap.size := fun k b l e n hb => by
    obtain ⟨_, _, h1, _⟩ := h.rows k b l e n hb; exact heap_lt h1
  exact
    { hg with
      boxes := fun k b cs' hb => by
        simp only [upd] at hb
        split at hb
        · cases hb
          exact ⟨hok, .inl h.hsz, fun o ho => by have := h.fs _ o ho; omega⟩
        · exact hg.boxes k b cs' hb
      boxd := fun k k' b cs1 cs2 h1 h2 => by
        simp only [upd] at h1 h2
        split at h1 <;> split at h2
        · subst_vars; rfl
        · cases h1; have := hlt _ _ _ h2; omega
        · cases h2; have := hlt _ _ _ h1; omega
        · exact h.boxd k k' b cs1 cs2 h1 h2
      boxrow := fun k k' b cs1 l e n h1 h2 => by
        simp only [upd] at h1
        split at h1
        · cases h1; have := hltr _ _ _ _ _ h2; omega
        · exact h.boxrow k k' b cs1 l e n h1 h2 }

end
end Go.Vm
end
section
namespace Go.Vm

/-- Where the parts of a struct or an array lie. -/
def tPlaces (P : Program) (t : TypeId) : Option (List (Nat × Nat)) :=
  match P.underlying t with
  | some (.struct fs) => fs.toList.mapM (fun f => (P.info? f.type).map fun i => (f.offset, i.size))
  | some (.array n e) => (tSize P e).map fun sz => (List.range n).map fun i => (i * sz, sz)
  | _ => none

def fillC (ps : List (Nat × Nat)) : List C → List (Nat × V) → Option (List C)
  | cs, [] => some cs
  | cs, (i, x) :: rest =>
    match ps[i]?, x.cells with
    | some (off, size), some xs => if xs.length = size ∧ off + size ≤ cs.length then fillC ps (cs.take off ++ xs ++ cs.drop (off + size)) rest else none
    | _, _ => none

def buildV (P : Program) (t : TypeId) (parts : List (Nat × V)) : Option V :=
  match tPlaces P t, tZero P t with
  | some ps, some z => (fillC ps z parts).map .agg
  | _, _ => none

def cellsAll : List V → Option (List (List C))
  | [] => some []
  | x :: r => match x.cells, cellsAll r with
    | some c, some l => some (c :: l)
    | _, _ => none

/-- The elements of a slice that is built. -/
def sliceEls (P : Program) (t len : Nat) (parts : List (Nat × V)) : Option (Nat × List (List C)) :=
  match sElem P t with
  | some (e, sz) =>
    match cellsAll (parts.map (·.2)) with
    | some es => if 0 < sz ∧ len * sz ≤ 16777216 ∧ (tZero P e).isSome = true ∧ parts.map (·.1) = List.range len ∧ (es.all fun c => c.length == sz && c.all C.known) = true
        then some (sz, es.map (·.map C.strip)) else none
    | none => none
  | none => none

def storeV (P : Program) (bx : Nat → Option (Nat × List C)) (t : TypeId) (x y : V) : Option (Nat × Nat × List C) :=
  match x with
  | .c (.box k b o) =>
    match bx k, y.cells with
    | some (b', cs), some vs => if isObj cs = false ∧ b = b' ∧ tSize P t = some vs.length ∧ o + vs.length ≤ cs.length ∧ vs.all C.known = true then some (k, b, cs.take o ++ vs ++ cs.drop (o + vs.length)) else none
    | _, _ => none
  | _ => none

def appCore (rw : Nat → Option (Nat × Nat × TypeId × Nat)) (d e sz : Nat) (nl : Bool) (n : Nat) (own : Option (Nat × Nat)) (es es' : List (List C)) (β : Nat) : Option (V × Option (Nat × Nat × Nat × TypeId × Nat)) :=
  match nl with
  | true => match es' with
    | [] => some (.c (.sl true sz none []), none)
    | x :: r => some (.c (.sl false sz (some (d, β)) ((x :: r).map (·.map C.strip))), some (d, β, (x :: r).length, e, sz))
  | false => match own with
    | some (key, b) => match rw key with
      | some (b', len, e', n2) => if b = b' ∧ len = es.length ∧ e' = e ∧ n2 = sz ∧ n = sz then some (.c (.sl false sz (some (key, β)) (es ++ es'.map (·.map C.strip))), some (key, β, es.length + es'.length, e, sz)) else none
      | none => none
    | none => none

def appV (P : Program) (rw : Nat → Option (Nat × Nat × TypeId × Nat)) (d : Nat) (t : TypeId) (x y : V) (β : Nat) : Option (V × Option (Nat × Nat × Nat × TypeId × Nat)) :=
  match x, y with
  | .c (.sl nl n own es), .c (.sl _ n' _ es') =>
    match sElem P t with
    | some (e, sz) =>
      match tBytes P e, tZero P e with
      | some by', some z =>
        if 0 < sz ∧ 0 < by' ∧ z.length = sz ∧ (n' = sz ∨ es' = []) ∧ (es.length + es'.length) * by' ≤ 140737488355328 then appCore rw d e sz nl n own es es' β else none
      | _, _ => none
    | none => none
  | _, _ => none

/-- Room for k elements behind the nil slice. -/
def appNV (P : Program) (d : Nat) (t t' : TypeId) (x y : V) (β : Nat) : Option (V × Option (Nat × Nat × Nat × TypeId × Nat)) :=
  match x, y with
  | .c (.sl true _ _ _), .c (.int _ k) =>
    match sElem P t, iKind P t' with
    | some (e, sz), some _ =>
      match tBytes P e, tZero P e with
      | some by', some z => if 0 < sz ∧ 0 < by' ∧ z.length = sz ∧ 0 < k ∧ k.toNat * by' ≤ 140737488355328 then some (.c (.room sz d β), some (d, β, 0, e, sz)) else none
      | _, _ => none
    | _, _ => none
  | _, _ => none

def St.setBx (st : St) (k b : Nat) (cs : List C) : St := { st with bx := upd st.bx k (some (b, cs)) }
def St.setRw (st : St) : Option (Nat × Nat × Nat × TypeId × Nat) → St
  | some (k, b, len, e, n) => { st with rw := upd st.rw k (some (b, len, e, n)) }
  | none => st

/-- The elements of a slice over a box are cleared: what they are then is forgotten. -/
def clrV (P : Program) (bx : Nat → Option (Nat × List C)) (t : TypeId) (x : V) : Option (Nat × Nat × List C) :=
  match x with
  | .c (.ms n key b i len) => match bx key, sElem P t with
    | some (b', cs), some (e, m) => match tZero P e with
      | some z => if isObj cs = false ∧ b = b' ∧ m = n ∧ z.length = n ∧ z.all C.known = true ∧ (i + len) * n ≤ cs.length then some (key, b, cs.take (i * n) ++ List.replicate (len * n) .any ++ cs.drop (i * n + len * n)) else none
      | none => none
    | _, _ => none
  | _ => none

def evEff (P : Program) (op : Op) (dst : Option Tmp) (st : St) (β : Nat) : Option (St × V) :=
  match op with
  | .alloc T => match dst, tZero P T with
    | some d, some z => some (st.setBx d β z, .c (.box d β 0))
    | _, _ => none
  | .box _ x => match dst, (st.ev x).cells with
    | some d, some cs => some (st.setBx d β cs, .c (.box d β 0))
    | _, _ => none
  | .store t x y => match storeV P st.bx t (st.ev x) (st.ev y) with
    | some (k, b, cs) => some (st.setBx k b cs, .c .und)
    | none => none
  | .build t parts => (buildV P t (parts.toList.map fun p => (p.1, st.ev p.2))).map fun v => (st, v)
  | .buildSlice t len parts => match sliceEls P t len (parts.toList.map fun p => (p.1, st.ev p.2)) with
    | some (sz, es) => if len = 0 then match dst, sElem P t with
        | some d, some q => some (st.setRw (some (d, β, 0, q.1, sz)), .c (.sl false sz (some (d, β)) []))
        | _, _ => none
      else some (st, .c (.sl false sz none es))
    | none => none
  | .call { callee := .builtin .append, args, argTypes } => match args.toList, argTypes.toList, dst with
    | [x, y], [t, t'], some d => if t = t' then (appV P st.rw d t (st.ev x) (st.ev y) β).map fun r => (st.setRw r.2, r.1) else (appNV P d t t' (st.ev x) (st.ev y) β).map fun r => (st.setRw r.2, r.1)
    | _, _, _ => none
  | .call { callee := .builtin .clear, args, argTypes } => match args.toList, argTypes.toList with
    | [x], [t] => match clrV P st.bx t (st.ev x) with
      | some (k, b, cs) => some (st.setBx k b cs, .tup [])
      | none => none
    | _, _ => none
  | .makeMap t none => match dst, mTy P t with
    | some d, some (_, nk, kag, vag, _) => some (st.setBx d β [.mapc kag nk vag []], .c (.map d β))
    | _, _ => none
  | .mapUpdate t m k x => match mupV P st.bx t (st.ev m) (st.ev k) (st.ev x) with
    | some (k, b, cs) => some (st.setBx k b cs, .c .und)
    | none => none
  | .mapEntry t m k => match mentV P st.bx t (st.ev m) (st.ev k) with
    | some ((k, b, cs), v) => some (st.setBx k b cs, v)
    | none => none
  | .entryStore _ m s x => match mstV st.bx (st.ev m) (st.ev s) (st.ev x) with
    | some (k, b, cs) => some (st.setBx k b cs, .c .und)
    | none => none
  | .range t x => match dst, mTy P t, st.ev x with
    | some d, some _, .c (.map key b) => match st.bx key with
      | some (b', [.mapc _ _ _ ents]) => if b = b' then some (st.setBx d β [.iter key b ents.length []], .c (.box d β 0)) else none
      | _ => none
    | _, _, _ => none
  | .next it false => match nextV st.bx β (st.ev it) with
    | some (some (k, b, cs), v) => some (st.setBx k b cs, v)
    | some (none, v) => some (st, v)
    | none => none
  | .entry it => match entV st.bx (st.ev it) with
    | some v => some (st, v)
    | none => none
  | op => (evPure P st.ev st.bx op).map fun v => (st, v)

section
variable {E : Env} {F F' : Nat → Nat → Prop} {st : St} {a : Act} {w w' : World} {P : Program}

theorem splice_getD (cs xs : List C) (off k : Nat) (h : off + xs.length ≤ cs.length) :
    (cs.take off ++ xs ++ cs.drop (off + xs.length)).getD k .any = if off ≤ k ∧ k < off + xs.length then xs.getD (k - off) .any else cs.getD k .any := by
  simp only [getD_eq]
  by_cases h1 : k < off
  · rw [if_neg (by omega), List.append_assoc, List.getElem?_append_left (by simp; omega), List.getElem?_take, if_pos h1]
  · by_cases h2 : k < off + xs.length
    · rw [if_pos ⟨by omega, h2⟩, List.getElem?_append_left (by simp; omega), List.getElem?_append_right (by simp; omega)]
      simp only [List.length_take]
      rw [Nat.min_eq_left (by omega)]
    · rw [if_neg (by omega), List.getElem?_append_right (by simp; omega), List.getElem?_drop]
      congr 2
      simp; omega

theorem fill_sound (ps : List (Nat × Nat)) (place : Nat → Option (Nat × Nat)) (hpl : ∀ i p, ps[i]? = some p → place i = some p) :
    ∀ (parts : List (Nat × Operand)) (cells : Array Value) (cs cs' : List C), cells.size = cs.length → (∀ k, k < cs.length → CR F w (cells.getD k undef) (cs.getD k .any)) →
      (∀ p ∈ parts, VR F w (a.eval p.2) (st.ev p.2)) → fillC ps cs (parts.map fun p => (p.1, st.ev p.2)) = some cs' →
      ∃ cells', Instr.fill place cells (parts.map fun p => (p.1, a.eval p.2)) = some cells' ∧ cells'.size = cs'.length ∧ ∀ k, k < cs'.length → CR F w (cells'.getD k undef) (cs'.getD k .any) := by
  intro parts
  induction parts with
  | nil => intro cells cs cs' hs hr _ h; simp only [List.map_nil, fillC, Option.some.injEq] at h; subst h; exact ⟨cells, rfl, hs, hr⟩
  | cons p parts ih =>
    intro cells cs cs' hs hr hp h
    simp only [List.map_cons, fillC] at h
    split at h
    · rename_i off size xs hps hx
      split at h
      · rename_i hc
        obtain ⟨rfl, hle⟩ := hc
        obtain ⟨g1, g2⟩ := (hp p (List.mem_cons_self ..)).cells hx
        obtain ⟨f1, f2⟩ := Great.foldl_set off (a.eval p.2).cells.toList 0 cells
        have hl : (cs.take off ++ xs ++ cs.drop (off + xs.length)).length = cs.length := by simp; omega
        obtain ⟨cells', c1, c2, c3⟩ := ih (((a.eval p.2).cells.toList.zipIdx 0).foldl (fun cs (x : Value × Nat) => cs.setIfInBounds (off + x.2) x.1) cells)
          (cs.take off ++ xs ++ cs.drop (off + xs.length)) cs' (by rw [f1, hl, hs]) (fun k hk => by
            rw [hl] at hk
            rw [splice_getD cs xs off k hle, Array.getD_eq_getD_getElem?, f2 k]
            simp only [Nat.add_zero, Array.length_toList, g1]
            by_cases hin : off ≤ k ∧ k < off + xs.length
            · rw [if_pos ⟨hin.1, hin.2, by omega⟩, if_pos hin]
              have := g2 (k - off) (by omega)
              simpa [Array.getD_eq_getD_getElem?] using this
            · rw [if_neg (by omega), if_neg hin]
              have := hr k hk
              simpa [Array.getD_eq_getD_getElem?] using this) (fun q hq => hp q (List.mem_cons_of_mem _ hq)) h
        refine ⟨cells', ?_, c2, c3⟩
        simp only [List.map_cons]
        unfold Instr.fill
        rw [hpl p.1 _ hps]
        simp only
        rw [if_neg (by simp [g1]; omega), ← c1]
        congr 1
        simp only [← Array.foldl_toList, Array.toList_zipIdx]
      · cases h
    · cases h

theorem buildV_sound (h : Rel E F st a w) {t : TypeId} {parts : Array (Nat × Operand)} {z : V} (hz : buildV P t (parts.toList.map fun p => (p.1, st.ev p.2)) = some z) :
    ∃ r, (Instr.build t (parts.map fun (i, x) => (i, a.eval x))).run P w = .ok r w ∧ VR F w r z := by
  unfold buildV at hz
  split at hz
  · rename_i ps z0 hps hz0
    cases hf : fillC ps z0 (parts.toList.map fun p => (p.1, st.ev p.2)) with
    | none => rw [hf] at hz; cases hz
    | some cs' =>
      rw [hf] at hz; cases hz
      obtain ⟨zv, i, hi, hzv, _, rfl⟩ := run_zeroValue (P := P) hz0 w
      have zr : ∀ k, k < (zv.cells.toList.map cOf).length → CR F w (zv.cells.getD k undef) ((zv.cells.toList.map cOf).getD k .any) := fun k hk => by
        have hk' : k < zv.cells.size := by simpa using hk
        have := cOf_reads F w zv.cells[k]
        simpa [getD_eq, Array.getD_eq_getD_getElem?, hk'] using this
      have conv : ∀ place, Instr.fill place zv.cells (parts.map fun (i, x) => (i, a.eval x)).toList = Instr.fill place zv.cells (parts.toList.map fun p => (p.1, a.eval p.2)) := fun place => by
        rw [Array.toList_map]
      unfold tPlaces at hps
      split at hps
      · rename_i fs hu
        obtain ⟨cells', c1, c2, c3⟩ := fill_sound (F := F) (w := w) (st := st) (a := a) ps (ps.toArray[·]?) (fun i p hp => by simpa using hp) parts.toList zv.cells _ cs' (by simp) zr (fun p _ => h.ev p.2) hf
        refine ⟨.agg cells', run_build w t _ cells' ?_, .agg _ _ c2 c3⟩
        simp only [Program.built, hi, hu, hzv, hps, conv, c1]
      · rename_i n e hu
        cases hs : tSize P e with
        | none => simp [hs] at hps
        | some sz =>
          simp [hs] at hps
          unfold tSize at hs
          cases hie : P.info? e with
          | none => simp [hie] at hs
          | some ie =>
            simp [hie] at hs
            subst hs
            obtain ⟨cells', c1, c2, c3⟩ := fill_sound (F := F) (w := w) (st := st) (a := a) ps (fun i => some (i * ie.size, ie.size)) (fun i p hp => by
              subst hps
              simp only [List.getElem?_map] at hp
              cases hr : (List.range n)[i]? with
              | none => simp [hr] at hp
              | some j =>
                simp [hr] at hp
                obtain ⟨hlt, hj⟩ := List.getElem?_eq_some_iff.1 hr
                simp at hj
                subst hj
                rw [← hp]) parts.toList zv.cells _ cs' (by simp) zr (fun p _ => h.ev p.2) hf
            refine ⟨.agg cells', run_build w t _ cells' ?_, .agg _ _ c2 c3⟩
            simp only [Program.built, hi, hu, hzv, hie, conv, c1]
      · cases hps
  · cases hz

end
end Go.Vm
end
section
namespace Go.Vm
section
variable {E : Env} {F F' : Nat → Nat → Prop} {st : St} {a : Act} {w w' : World} {P : Program}

theorem flatten_strip_getD (es : List (List C)) (k : Nat) : (es.map (·.map C.strip)).flatten.getD k .any = (es.flatten.getD k .any).strip := by
  rw [← List.map_flatten, getD_map_strip]

theorem storeV_sound (h : Rel E F st a w) {t : TypeId} {x y : V} {u v : Value} (hu : VR F w u x) (hv : VR F w v y) {k b : Nat} {cs : List C} (hz : storeV P st.bx t x y = some (k, b, cs)) :
    ∃ w', (Instr.storeAt t u v).run P w = .ok () w' ∧ Rel E F (st.setBx k b cs) a w' := by
  unfold storeV at hz
  split at hz
  · rename_i k' b' o
    split at hz
    · rename_i b'' cs0 vs hbx hc
      split at hz
      · rename_i hcond
        obtain ⟨hob, rfl, hsz, hle, hkn⟩ := hcond
        cases hz
        have hu := hu.inv; cases hu
        obtain ⟨g1, g2⟩ := hv.cells hc
        obtain ⟨hbo, h4, h5⟩ := h.boxes _ _ _ hbx
        obtain ⟨cells, T, h1, h2, h3⟩ := hbo.plain hob
        have hone : ∀ q ∈ v.cells.toList, q.oneCell' = true := by
          intro q hq
          obtain ⟨j, hj, rfl⟩ := List.getElem_of_mem hq
          have hj' : j < vs.length := by simpa [g1] using hj
          have := g2 j hj'
          have hk : (vs.getD j .any).known = true := by
            rw [getD_eq, List.getElem?_eq_getElem hj']
            exact List.all_eq_true.1 hkn _ (List.getElem_mem hj')
          have := this.oneCell hk
          simpa [Array.getD_eq_getD_getElem?, g1, hj'] using this
        have hrun := run_storeCells_at P b o T v.cells.toList 0 cells w h1 (by simp [g1]; omega) hone
        refine ⟨_, ?_, h.setBox (cells' := (cells.toList.take (o + 0) ++ v.cells.toList ++ cells.toList.drop (o + 0 + v.cells.toList.length)).toArray) hbx h1 ?_ ?_ ?_⟩
        · simp only [Instr.storeAt, Instr.sureAddr, storeVar, Sem.run_bind, Sem.run_pure, Result.andThen_ok, run_sizeOf hsz]
          rw [if_neg (by simp [g1])]
          exact hrun
        · simp [g1]; omega
        · simp [g1]; omega
        · intro j hj
          have hl : (cs0.take o ++ vs ++ cs0.drop (o + vs.length)).length = cs0.length := by simp; omega
          rw [hl] at hj
          rw [splice_getD cs0 vs o j hle]
          have e : (cells.toList.take (o + 0) ++ v.cells.toList ++ cells.toList.drop (o + 0 + v.cells.toList.length)).toArray.getD j undef = if o ≤ j ∧ j < o + vs.length then v.cells.getD (j - o) undef else cells.getD j undef := by
            rw [Array.getD_eq_getD_getElem?]
            simp only [List.getElem?_toArray, Nat.add_zero, Array.length_toList, g1]
            by_cases q1 : j < o
            · rw [if_neg (by omega), List.append_assoc, List.getElem?_append_left (by simp; omega), List.getElem?_take, if_pos q1]
              simp [Array.getD_eq_getD_getElem?]
            · by_cases q2 : j < o + vs.length
              · rw [if_pos ⟨by omega, q2⟩, List.getElem?_append_left (by simp [g1]; omega), List.getElem?_append_right (by simp; omega)]
                simp only [List.length_take, Array.length_toList]
                rw [Nat.min_eq_left (by omega)]
                simp [Array.getD_eq_getD_getElem?]
              · rw [if_neg (by omega), List.getElem?_append_right (by simp [g1]; omega), List.getElem?_drop]
                have : (o + vs.length + (j - (List.take o cells.toList ++ v.cells.toList).length)) = j := by simp [g1]; omega
                rw [this]
                simp [Array.getD_eq_getD_getElem?]
          rw [e]
          split
          · exact g2 _ (by omega)
          · exact h3 j hj
      · cases hz
    · cases hz
  · cases hz

theorem clrV_sound (h : Rel E F st a w) {t ty : TypeId} {x : V} {u : Value} (hu : VR F w u x) {k b : Nat} {cs : List C} (hz : clrV P st.bx t x = some (k, b, cs)) :
    ∃ w', (Builtin.clear_ #[t] ty #[u]).run P w = .ok (.tuple #[]) w' ∧ Rel E F (st.setBx k b cs) a w' := by
  unfold clrV at hz
  split at hz
  case h_2 => cases hz
  rename_i n key b0 i len
  split at hz
  case h_2 => cases hz
  rename_i b' cs0 e m hbx hs
  split at hz
  case h_2 => cases hz
  rename_i z hzz
  split at hz
  case isFalse => cases hz
  rename_i hcond
  obtain ⟨hob, rfl, rfl, hzl, hkn, hle⟩ := hcond
  cases hz
  obtain ⟨ht, hm⟩ := sElem_some hs
  obtain ⟨zv, inf, hi, hzv, hzrun, hzc⟩ := run_zeroValue (P := P) hzz w
  have hu := hu.inv
  cases hu with
  | ms _ o cap _ _ _ _ hlc ho =>
  by_cases hl0 : len = 0
  · subst hl0
    refine ⟨w, by simp [Builtin.clear_, run_underlying ht], ?_⟩
    simp only [Nat.zero_mul, List.replicate_zero, List.append_nil, Nat.add_zero, List.take_append_drop, St.setBx]
    rw [show upd st.bx k (some (b, cs0)) = st.bx from by
      funext j; simp only [upd]; split
      · rename_i e; rw [e, hbx]
      · rfl]
    exact h
  · have ho := ho.resolve_left hl0
    subst ho
    obtain ⟨hbo, h4, h5⟩ := h.boxes _ _ _ hbx
    obtain ⟨cells, T, h1, h2, h3⟩ := hbo.plain hob
    have hzs : zv.cells.size = m := by rw [← hzl, hzc]; simp
    have hsz : (Builtin.zeroCells zv.cells len).size = len * m := by simp [Builtin.zeroCells, hzs]
    have hadd : (i + len) * m = i * m + len * m := Nat.add_mul ..
    have hone : ∀ q ∈ (Builtin.zeroCells zv.cells len).toList, q.oneCell' = true := by
      intro q hq
      simp only [Builtin.zeroCells, Array.toList_map, List.mem_map] at hq
      obtain ⟨j, hj, rfl⟩ := hq
      have hjj : j < len * zv.cells.size := by simpa using hj
      have hm0 : 0 < zv.cells.size := by
        rcases Nat.eq_zero_or_pos zv.cells.size with g | g
        · rw [g] at hjj; simp at hjj
        · exact g
      have hj' : j % zv.cells.size < zv.cells.size := Nat.mod_lt _ hm0
      rw [getElem!_pos zv.cells _ hj']
      have hr := cOf_reads F w (zv.cells[j % zv.cells.size])
      refine hr.oneCell ?_
      refine List.all_eq_true.1 hkn _ ?_
      rw [hzc]
      exact List.mem_map.2 ⟨_, by simp, rfl⟩
    have hrun := run_storeCells_at P b (i * m) T (Builtin.zeroCells zv.cells len).toList 0 cells w h1 (by simp [hsz]; omega) hone
    refine ⟨_, ?_, h.setBox (cells' := (cells.toList.take (i * m + 0) ++ (Builtin.zeroCells zv.cells len).toList ++ cells.toList.drop (i * m + 0 + (Builtin.zeroCells zv.cells len).toList.length)).toArray) hbx h1 ?_ ?_ ?_⟩
    · have hrun' : (storeCells ⟨b, i * m, none⟩ (Builtin.zeroCells zv.cells len).toList).run P w = _ := hrun
      cases len with
      | zero => exact absurd rfl hl0
      | succ len =>
        have e1 : (Builtin.clear_ #[t] ty #[.slice (some ⟨b, i * m, none⟩) (len + 1) cap]).run P w = ((storeCells ⟨b, i * m, none⟩ (Builtin.zeroCells zv.cells (len + 1)).toList).run P w).andThen fun _ w' => .ok (.tuple #[]) w' := by
          simp [Builtin.clear_, run_underlying ht, hzrun]
        rw [e1, hrun']
        rfl
    · simp [hsz]; omega
    · simp [hsz]; omega
    · intro j hj
      have hl : (cs0.take (i * m) ++ List.replicate (len * m) C.any ++ cs0.drop (i * m + len * m)).length = cs0.length := by simp; omega
      rw [hl] at hj
      have hsp := splice_getD cs0 (List.replicate (len * m) C.any) (i * m) j (by simp; omega)
      simp only [List.length_replicate] at hsp
      rw [hsp]
      split
      · rename_i hin
        have : (List.replicate (len * m) C.any).getD (j - i * m) .any = .any := by
          simp only [getD_eq, List.getElem?_replicate]
          split <;> rfl
        rw [this]
        exact .any _
      · rename_i hin
        have e : (cells.toList.take (i * m + 0) ++ (Builtin.zeroCells zv.cells len).toList ++ cells.toList.drop (i * m + 0 + (Builtin.zeroCells zv.cells len).toList.length)).toArray.getD j undef = cells.getD j undef := by
          rw [Array.getD_eq_getD_getElem?]
          simp only [List.getElem?_toArray, Nat.add_zero, Array.length_toList, hsz]
          by_cases q1 : j < i * m
          · rw [List.append_assoc, List.getElem?_append_left (by simp; omega), List.getElem?_take, if_pos q1]
            simp [Array.getD_eq_getD_getElem?]
          · rw [List.getElem?_append_right (by simp [hsz]; omega), List.getElem?_drop]
            have : (i * m + len * m + (j - (List.take (i * m) cells.toList ++ (Builtin.zeroCells zv.cells len).toList).length)) = j := by simp [hsz]; omega
            rw [this]
            simp [Array.getD_eq_getD_getElem?]
        rw [e]
        exact h3 j hj

theorem cellsAll_some : ∀ (l : List V) (es : List (List C)), cellsAll l = some es → es.length = l.length ∧ ∀ (k : Nat) (x : V), l[k]? = some x → ∃ c, es[k]? = some c ∧ V.cells x = some c := by
  intro l
  induction l with
  | nil => intro es h; cases h; exact ⟨rfl, fun k x hx => by simp at hx⟩
  | cons y l ih =>
    intro es h
    unfold cellsAll at h
    split at h
    · rename_i c r hc hr
      cases h
      obtain ⟨h1, h2⟩ := ih r hr
      refine ⟨by simp [h1], fun k x hx => ?_⟩
      match k with
      | 0 => simp at hx; subst hx; exact ⟨c, rfl, hc⟩
      | k + 1 => simp at hx; simpa using h2 k x hx
    · cases h

theorem pairs_zipIdx {α : Type} : ∀ (l : List (Nat × α)) (s : Nat), l.map (·.1) = (List.range' s l.length) → l = ((l.map (·.2)).zipIdx s).map fun x => (x.2, x.1) := by
  intro l
  induction l with
  | nil => intro _ _; rfl
  | cons p l ih =>
    intro s h
    simp only [List.map_cons, List.length_cons, List.range'_succ, List.cons.injEq] at h
    simp only [List.map_cons, List.zipIdx_cons]
    rw [← ih (s + 1) h.2, ← h.1]

/-- A new row of data. -/
theorem Rel.newRow (h : Rel E F st a w) (T : TypeId) (cells : Array Value) (es : List (List C)) (n : Nat) (hn : ∀ e ∈ es, e.length = n) (hlen : cells.size = es.length * n)
    (h1 : ∀ v ∈ cells.toList, v.oneCell' = true) (hr : ∀ k, k < cells.size → CR F w (cells.getD k undef) (es.flatten.getD k .any)) :
    ∃ F', Rel E F' st a (w.alloc (.cells cells T)) ∧ CR F' (w.alloc (.cells cells T)) (.slice (some ⟨w.heap.size, 0, none⟩) es.length es.length) (.sl false n none es) := by
  let F' : Nat → Nat → Prop := fun b o => F b o ∨ b = w.heap.size
  have hFF : ∀ b o, F b o → F' b o := fun _ _ x => .inl x
  have hg : Rel E F' st a (w.alloc (.cells cells T)) := h.grow rfl rfl rfl (by simp) (fun k hk => Go.RowKit.Below.heap_alloc w _ k hk) hFF
    (fun b o x => x.elim .inl fun e => .inr (by omega)) (fun b o x => x.elim (fun y => by have := h.fs b o y; simp; omega) fun e => by simp; omega)
  have hs : Stp F w (w.alloc (.cells cells T)) := .of_blocks h.fs fun k hk => Go.RowKit.Below.heap_alloc w _ k hk
  refine ⟨F', hg, .sl w.heap.size 0 es.length n none es cells.toList (Nat.le_refl _) hn (by simpa using hlen) (fun k _ => .inr rfl) (fun k hk => ?_) h1 (fun k hk => ?_) (by simp)⟩
  · rw [Nat.zero_add, cell_of_row _ w.heap.size k cells T (0, 0) (heap_alloc_new w _)]
    simp
  · have := (hr k (by simpa using hk)).mono hs hFF
    simpa [getD_eq, Array.getD_eq_getD_getElem?] using this

theorem Rel.newOwn (h : Rel E F st a w) (T : TypeId) (d n : Nat) :
    Rel E F { st with rw := upd st.rw d (some (w.heap.size, 0, T, n)) } a (w.alloc (.cells #[] T)) ∧ CR F (w.alloc (.cells #[] T)) (.slice (some ⟨w.heap.size, 0, none⟩) 0 0) (.sl false n (some (d, w.heap.size)) []) := by
  have hg : Rel E F st a (w.alloc (.cells #[] T)) := h.grow rfl rfl rfl (by simp) (fun k hk => Go.RowKit.Below.heap_alloc w _ k hk) (fun _ _ x => x) (fun _ _ x => .inl x) (fun b o x => by have := h.fs b o x; simp; omega)
  have hltr : ∀ k b l e n, st.rw k = some (b, l, e, n) → b < w.heap.size := fun k b l e n hb => by
    obtain ⟨_, _, h1, _⟩ := h.rows k b l e n hb; exact heap_lt h1
  have hlt : ∀ k b cs, st.bx k = some (b, cs) → b < w.heap.size := fun k b cs hb => by
    exact (h.boxes k b cs hb).1.lt
  refine ⟨{ hg with rows := fun k b len e n' hb => ?_, rowd := fun k k' b l e n1 l' e' n2 h1 h2 => ?_, boxrow := fun k k' b cs1 l e n1 h1 h2 => ?_ }, ?_⟩
  · simp only [upd] at hb
    split at hb
    · cases hb
      exact ⟨#[], 0, heap_alloc_new w _, by simp, Nat.le_refl _, Nat.zero_le _, .inl h.hsz, fun o ho => by have := h.fs _ o ho; omega⟩
    · exact hg.rows k b len e n' hb
  · simp only [upd] at h1 h2
    split at h1 <;> split at h2
    · subst_vars; rfl
    · cases h1; have := hltr _ _ _ _ _ h2; omega
    · cases h2; have := hltr _ _ _ _ _ h1; omega
    · exact h.rowd k k' b l e n1 l' e' n2 h1 h2
  · simp only [upd] at h2
    split at h2
    · cases h2; have := hlt _ _ _ h1; omega
    · exact h.boxrow k k' b cs1 l e n1 h1 h2
  · refine .sl w.heap.size 0 0 n (some (d, w.heap.size)) [] [] (Nat.le_refl _) (by simp) (by simp) (by simp) (by simp) (by simp) (by simp) (fun key b' e => ?_)
    cases e
    refine ⟨rfl, rfl, T, ?_⟩
    simp only [World.shape?, heap_alloc_new w _, Nat.zero_mul]
    rfl

theorem sliceEls_sound (h : Rel E F st a w) {t len : Nat} {parts : Array (Nat × Operand)} {sz : Nat} {es : List (List C)} (hz : sliceEls P t len (parts.toList.map fun p => (p.1, st.ev p.2)) = some (sz, es)) :
    ∃ e cells, sElem P t = some (e, sz) ∧ (Instr.buildSlice t len (parts.map fun (i, x) => (i, a.eval x))).run P w = .ok (.slice (some ⟨w.heap.size, 0, none⟩) len len) (w.alloc (.cells cells e)) ∧
      es.length = len ∧ (∀ c ∈ es, c.length = sz) ∧ cells.size = es.length * sz ∧ (∀ v ∈ cells.toList, v.oneCell' = true) ∧ ∀ k, k < cells.size → CR F w (cells.getD k undef) (es.flatten.getD k .any) := by
  unfold sliceEls at hz
  split at hz
  · rename_i e sz' hs
    split at hz
    · rename_i es0 hes
      split at hz
      · rename_i hcond
        obtain ⟨hpos, hbig, hzero, hidx, hall⟩ := hcond
        cases hz
        obtain ⟨hu, hsize⟩ := sElem_some hs
        obtain ⟨zc, hzc⟩ := Option.isSome_iff_exists.1 hzero
        obtain ⟨zv, i, hi, hzv, hzrun, _⟩ := run_zeroValue (P := P) hzc w
        have hplen : parts.size = len := by
          have := congrArg List.length hidx; simpa using this
        obtain ⟨hel, heg⟩ := cellsAll_some _ _ hes
        have hel' : es0.length = len := by rw [hel]; simpa using hplen
        -- the concrete parts
        let vs : List Value := parts.toList.map fun p => a.eval p.2
        have hvl : vs.length = len := by simpa [vs] using hplen
        have hvk : ∀ k, k < len → ∃ v c, vs[k]? = some v ∧ es0[k]? = some c ∧ v.cells.size = c.length ∧ c.length = sz ∧ (c.all C.known) = true ∧ ∀ j, j < c.length → CR F w (v.cells.getD j undef) (c.getD j .any) := by
          intro k hk
          have hkp : k < parts.toList.length := by simpa [hplen] using hk
          obtain ⟨c, hc1, hc2⟩ := heg k (st.ev (parts.toList[k]).2) (by simp only [List.map_map, List.getElem?_map, List.getElem?_eq_getElem hkp]; rfl)
          obtain ⟨g1, g2⟩ := (h.ev (parts.toList[k]).2).cells hc2
          have hm := List.all_eq_true.1 hall c (List.mem_of_getElem? hc1)
          simp only [Bool.and_eq_true, beq_iff_eq] at hm
          exact ⟨a.eval (parts.toList[k]).2, c, by simp only [vs, List.getElem?_map, List.getElem?_eq_getElem hkp]; rfl, hc1, g1, hm.1, hm.2, g2⟩
        have hvs : ∀ v ∈ vs, v.cells.size = sz := by
          intro v hv
          obtain ⟨k, hk, rfl⟩ := List.getElem_of_mem hv
          obtain ⟨v', c, h1, h2, h3, h4, _⟩ := hvk k (by omega)
          rw [List.getElem?_eq_getElem hk] at h1
          cases h1
          omega
        have hpar : (parts.map fun (i, x) => (i, a.eval x)).toList = (vs.zipIdx 0).map fun x => (x.2, x.1) := by
          have := pairs_zipIdx (parts.toList.map fun p => (p.1, a.eval p.2)) 0 (by
            rw [List.length_map, List.map_map, show parts.toList.length = len by simpa using hplen, ← List.range_eq_range', ← hidx, List.map_map]; rfl)
          rw [Array.toList_map]
          simpa [vs, List.map_map, Function.comp_def] using this
        let cells : Array Value := (vs.flatMap fun v => v.cells.toList).toArray
        have hflat : ∀ (l : List Value), (∀ v ∈ l, v.cells.size = sz) → (l.flatMap fun v => v.cells.toList).length = l.length * sz := by
          intro l
          induction l with
          | nil => intro _; simp
          | cons x l ih => intro hl; simp only [List.flatMap_cons, List.length_append, List.length_cons, ih fun v hv => hl v (List.mem_cons_of_mem _ hv), Array.length_toList, hl x (List.mem_cons_self ..), Nat.add_mul, Nat.one_mul]; omega
        have hcs : cells.size = len * sz := by simp only [cells, List.size_toArray]; rw [hflat vs hvs, hvl]
        have hcget : ∀ i j, i < len → j < sz → cells[i * sz + j]? = (vs[i]?).bind fun v => v.cells[j]? := by
          intro i j hi hj
          have hu : ∀ e ∈ vs.map (fun v => v.cells.toList), e.length = sz := by
            intro e he
            obtain ⟨v, hv, rfl⟩ := List.mem_map.1 he
            simpa using hvs v hv
          obtain ⟨v, _, hv, _⟩ := hvk i hi
          have := getElem?_flatten_uniform (vs.map fun v => v.cells.toList) i j v.cells.toList hu (by simp [hv]) hj
          simp only [cells, List.getElem?_toArray, List.flatMap_def]
          rw [this, hv]
          simp
        have hcr : ∀ k, k < cells.size → (cells.getD k undef).oneCell' = true ∧ CR F w (cells.getD k undef) (((es0.map (·.map C.strip))).flatten.getD k .any) := by
          intro k hk
          rw [hcs] at hk
          have hi : k / sz < len := (Nat.div_lt_iff_lt_mul hpos).2 hk
          have hj : k % sz < sz := Nat.mod_lt _ hpos
          have hkk : k / sz * sz + k % sz = k := by rw [Nat.mul_comm]; exact Nat.div_add_mod k sz
          generalize k / sz = q at hi hkk
          generalize k % sz = m at hj hkk
          subst hkk
          obtain ⟨v, c, h1, h2, h3, h4, h5, h6⟩ := hvk q hi
          have hcu : ∀ e ∈ es0, e.length = sz := by
            intro e he
            have := List.all_eq_true.1 hall e he
            simp only [Bool.and_eq_true, beq_iff_eq] at this
            exact this.1
          have e1 : cells.getD (q * sz + m) undef = v.cells.getD m undef := by
            rw [Array.getD_eq_getD_getElem?, hcget q m hi hj, h1, Array.getD_eq_getD_getElem?]; rfl
          have e2 : es0.flatten.getD (q * sz + m) .any = c.getD m .any := by
            rw [getD_eq, getElem?_flatten_uniform es0 q m c hcu h2 hj, getD_eq]
          rw [flatten_strip_getD, e1, e2]
          have hR := h6 m (by omega)
          refine ⟨hR.oneCell ?_, hR.strip⟩
          rw [getD_eq, List.getElem?_eq_getElem (by omega)]
          exact List.all_eq_true.1 h5 _ (List.getElem_mem _)
        refine ⟨e, cells, hs, ?_, by simpa using hel', ?_, ?_, ?_, fun k hk => (hcr k hk).2⟩
        · have hb : ¬ (len * sz > 2 ^ 24) := by simpa using hbig
          have hfw := Great.fill_whole hpos vs ((Array.range (len * sz)).map (zv.cells[· % zv.cells.size]!)) hvs (by simp [hvl])
          have hfw0 := Great.fill_whole hpos vs ((Array.range (len * sz)).map ((#[] : Array Value)[· % (#[] : Array Value).size]!)) hvs (by simp [hvl])
          simp only [Instr.buildSlice, Sem.run_bind, run_underlying hu, Result.andThen_ok, run_sizeOf hsize, Sem.run_ite, if_neg hb, Sem.run_pure]
          split
          · simp only [hpar, hfw0]
            simp [newRow, cells]
          · simp only [hzrun, Result.andThen_ok, hpar, hfw]
            simp [newRow, cells]
        · intro c hc
          obtain ⟨c0, hc0, rfl⟩ := List.mem_map.1 hc
          have := List.all_eq_true.1 hall c0 hc0
          simp only [Bool.and_eq_true, beq_iff_eq] at this
          simpa using this.1
        · rw [hcs]; simp [hel']
        · intro v hv
          obtain ⟨k, hk, rfl⟩ := List.getElem_of_mem hv
          have := (hcr k (by simpa using hk)).1
          have hk' : k < cells.size := by simpa using hk
          simpa [Array.getD_eq_getD_getElem?, hk'] using this
      · cases hz
    · cases hz
  · cases hz

end
end Go.Vm
end
