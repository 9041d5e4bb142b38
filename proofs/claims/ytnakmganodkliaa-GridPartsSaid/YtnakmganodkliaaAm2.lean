/- The computed effect of one operation, of a region in the text's order, and the look at the orders that a region may take. -/
import Derived.Test.YtnakmganodkliaaAm1
set_option linter.unusedVariables false
set_option linter.unusedSimpArgs false
namespace Go.Proofs.YtnakmganodkliaaAm
open Go

/-- What is said of one call: its contract, in the callee's numbers; which of our rows are handed to it (cap), which are lent (read alone), which go over into data (frz). -/
structure Ann where
  f : FuncId
  pre : List Row := []
  args : List D
  val : D
  post : List (Option Row) := []
  allocs : List Row := []
  cap : List Nat := []
  lent : List Nat := []
  frz : List Nat := []

/-- What is known of the functions that may be called: by the arguments (with what a closure holds) and the rows. -/
abbrev Sp := FuncId → List D → (Nat → Option Row) → Option Ann

/-- The callee's numbers in ours. -/
def ren (cap : List Nat) (nid : Nat) (id : Nat) : Nat := if id < cap.length then cap.getD id 0 else nid + (id - cap.length)

mutual
def renD (f : Nat → Nat) : D → D
  | .own id off len cap => .own (f id) off len cap
  | .ptr id i off => .ptr (f id) i off
  | .bsl id len sz => .bsl (f id) len sz
  | .rptr cs => .rptr (renDs f cs)
  | .agg cs => .agg (renDs f cs)
  | .fn g cs => .fn g (renDs f cs)
  | .tup cs => .tup (renDs f cs)
  | d => d
def renDs (f : Nat → Nat) : List D → List D
  | [] => []
  | d :: ds => renD f d :: renDs f ds
end

def renRow (f : Nat → Nat) : Row → Row
  | .box ty cs => .box ty (renDs f cs)
  | r => r

mutual
/-- Does it name rows below n alone? -/
def closedD (n : Nat) : D → Bool
  | .own id _ _ _ | .ptr id _ _ | .bsl id _ _ => decide (id < n)
  | .rptr cs | .agg cs | .fn _ cs | .tup cs => closedDs n cs
  | _ => true
def closedDs (n : Nat) : List D → Bool
  | [] => true
  | d :: ds => closedD n d && closedDs n ds
end
def closedRow (n : Nat) : Row → Bool
  | .box _ cs => closedDs n cs
  | _ => true

/-- Does the shape hold no slice? -/
def Ty.flat : Ty → Bool
  | .sl _ => false
  | .prod a b => a.flat && b.flat
  | _ => true

mutual
def flatD : D → Bool
  | .sl _ _ _ _ | .rptr _ | .top => false
  | .arr t _ => t.flat
  | .agg cs | .fn _ cs | .tup cs => flatDs cs
  | _ => true
def flatDs : List D → Bool
  | [] => true
  | d :: ds => flatD d && flatDs ds
end
def flatRow : Row → Bool
  | .box _ cs => flatDs cs
  | .data _ t _ => t.flat

mutual
/-- Does the value that is there serve as the one that the contract speaks of? The equations that are left. -/
def fit (rd : Nat → Option Row) (f : Nat → Nat) (soft : List Nat) : D → D → Option (List Prop)
  | .v x, .v y => some [x = y]
  | .v (.slice none 0 0), .sl false false _ xs => some [xs = []]
  | .sl _ _ t xs, .sl false false t' xs' => if h : t = t' then some [(h ▸ xs : List t'.El) = xs'] else none
  | .sl true _ t xs, .sl true false t' xs' => if h : t = t' then some [(h ▸ xs : List t'.El) = xs'] else none
  | .own id off len _, .sl false false t' xs' => if soft.contains id then match rowData rd id off len t' with
      | some xs => some [xs = xs']
      | none => none
    else none
  | .own id off len cap, .own id' off' len' cap' => if soft.contains id then none else
      match cap' with
      | none => match cap with
        | none => some [id = f id', off = off', len = len']
        | some _ => none
      | some k' => match cap with
        | some k => some [id = f id', off = off', len = len', k = k']
        | none => none
  | .arr t xs, .arr t' xs' => if h : t = t' then some [(h ▸ xs : List t'.El) = xs'] else none
  | .ptr id i off, .ptr id' i' off' => some [id = f id', i = i', off = off']
  | .bsl id len sz, .bsl id' len' sz' => if soft.contains id then none else some [id = f id', len = len', sz = sz']
  | .ptr id i off, .rptr cs' => if soft.contains id then match rd id with
      | some (.box _ cs) => fits rd f soft (cs.drop off) cs'
      | _ => none
    else none
  | .agg cs, .agg cs' => fits rd f soft cs cs'
  | .fn g cs, .fn g' cs' => if g = g' then fits rd f soft cs cs' else none
  | .rptr cs, .rptr cs' => fits rd f soft cs cs'
  | _, _ => none
def fits (rd : Nat → Option Row) (f : Nat → Nat) (soft : List Nat) : List D → List D → Option (List Prop)
  | [], [] => some []
  | d :: ds, e :: es => match fit rd f soft d e, fits rd f soft ds es with
    | some p, some q => some (p ++ q)
    | _, _ => none
  | _, _ => none
end

def rowEq (rd : Nat → Option Row) (f : Nat → Nat) : Nat → List Row → List Prop
  | _, [] => []
  | k, r :: rs => (rd (f k) = some (renRow f r)) :: rowEq rd f (k + 1) rs

/-- What a row that is handed over may become: another of its shape. -/
def shapeEq : List Row → List (Option Row) → Option (List Prop)
  | [], [] => some []
  | _ :: rs, none :: qs => shapeEq rs qs
  | .box _ _ :: rs, some (.box _ _) :: qs => shapeEq rs qs
  | .data e t xs :: rs, some (.data e' t' ys) :: qs => if e = e' ∧ t = t' then (shapeEq rs qs).map ((List.length ys = List.length xs) :: ·) else none
  | _, _ => none

def nodupB : List Nat → Bool
  | [] => true
  | a :: l => !l.contains a && nodupB l

/-- The effect of a call. -/
def callEff (P : Program) (rd : Nat → Option Row) (nid : Nat) (n : Ann) (callee : D) (args : List D) : Option Eff :=
  match callee with
  | .fn g caps =>
    let f := ren n.cap nid
    if g = n.f && n.pre.length = n.cap.length && nodupB (n.cap ++ n.frz) && n.pre.all (closedRow n.cap.length) && closedDs n.cap.length n.args && n.cap.all (fun i => !n.lent.contains i) && n.frz.all (fun i => (rd i).isSome)
        && (n.lent.isEmpty || (flatD n.val && n.allocs.all flatRow && n.post.all (fun r => match r with | none => true | some r => flatRow r))) then
      match fits rd f (n.lent ++ n.frz) (args ++ caps) n.args, shapeEq n.pre n.post with
      | some ps, some qs => some { val := renD f n.val, allocs := n.allocs.map (renRow f), writes := (n.cap.zip (n.post.map (Option.map (renRow f)))) ++ n.frz.map (fun i => (i, none)), obl := Con P n.f n.pre n.args n.val n.post n.allocs :: (ps ++ qs ++ rowEq rd f 0 n.pre) }
      | _, _ => none
    else none
  | _ => none

def fillD (place : Nat → Option (Nat × Nat)) : List D → List (Nat × D) → Option (List D)
  | cells, [] => some cells
  | cells, (i, d) :: rest => match place i, cellsOf d with
    | some (off, size), some cs => if cs.length = size && off + size ≤ cells.length then fillD place (cells.take off ++ cs ++ cells.drop (off + size)) rest else none
    | _, _ => none

def zeroD (P : Program) (t : TypeId) : Option (List D) :=
  match P.info? t with
  | some i => match i.zero with
    | some z => if z.cells.size = i.size && z.cells.toList.all Value.oneCell' then some (z.cells.toList.map .v) else none
    | none => none
  | none => none

def sizeB (P : Program) (t : TypeId) : Option Nat := if (P.underlying t).isSome then (P.info? t).map (·.size) else none

/-- Cells in pieces, each an element. -/
def elems (rd : Nat → Option Row) (t : Ty) : Nat → List D → Option (List t.El)
  | 0, [] => some []
  | 0, _ => none
  | n + 1, cs => match t.ofCells rd (cs.take t.size), elems rd t n (cs.drop t.size) with
    | some x, some xs => some (x :: xs)
    | _, _ => none

/-- Is a literal slice to be kept as a box, its elements as they stand? -/
def boxyB (len : Nat) (cs : List D) : Bool := decide (2 ≤ len) && cs.any fun d => match d with | .own _ _ _ _ => true | _ => false

def tyFuel : Nat := 12

def optInt : Option D → Option (Option Int)
  | none => some none
  | some d => (numD d).map some

def roomy (P : Program) (e : TypeId) (n : Nat) : Prop := n * P.bytesOf e ≤ 140737488355328 ∧ n ≤ 140737488355328

/-- Append: into a new row. -/
def appEff (P : Program) (rd : Nat → Option Row) (nid : Nat) (s x : D) (e : TypeId) : Option Eff :=
  match tyOf P tyFuel e with
  | some ty => if ty.size = P.cellsOf e && ty.size ≠ 0 && (zeroD P e).isSome then match (Ty.sl ty).ofCells rd [x] with
      | some ys => match s with
        | .v (.slice none 0 0) => some { val := .own nid 0 (List.length ys) none, allocs := [.data e ty ys], obl := [roomy P e (List.length ys)] }
        | .sl _ true ty' [] => if ty' = ty then some { val := .own nid 0 (List.length ys) none, allocs := [.data e ty ys], obl := [roomy P e (List.length ys)] } else none
        | .own id off len cap => match rd id with
          | some (.data e' ty' xs) => if h : ty' = ty then if e' = e then
              if cap = some 0 then some { val := .own nid 0 (len + List.length ys) none, allocs := [.data e ty ((((h ▸ xs : List ty.El)).drop off).take len ++ ys)], obl := [roomy P e (len + List.length ys)] }
              else some { val := .own nid 0 (len + List.length ys) none, allocs := [.data e ty ((((h ▸ xs : List ty.El)).drop off).take len ++ ys)], writes := [(id, none)], obl := [roomy P e (len + List.length ys)] }
            else none else none
          | _ => none
        | _ => none
      | none => none
    else none
  | none => none

def copyEff (P : Program) (rd : Nat → Option Row) (s x : D) (e : TypeId) : Option Eff :=
  match s with
  | .own id off len _ => match rd id with
    | some (.data e' ty xs) => if ty.size = P.cellsOf e && ty.size ≠ 0 && e' = e then match (Ty.sl ty).ofCells rd [x] with
        | some ys =>
          some { val := .v (.int .i64 (min (List.length ys) len : Nat)), writes := [(id, some (.data e ty (xs.take off ++ (ys.take (min (List.length ys) len)) ++ xs.drop (off + min (List.length ys) len))))] }
        | none => none
      else none
    | _ => none
  | _ => none

def clearEff (P : Program) (rd : Nat → Option Row) (s : D) (e : TypeId) : Option Eff :=
  match s, zeroD P e with
  | .own id off len _, some z => match rd id with
    | some (.data e' ty xs) => if ty.size = P.cellsOf e && ty.size ≠ 0 && e' = e then match ty.ofCells rd z with
        | some y => some { val := .v undef, writes := [(id, some (.data e ty (xs.take off ++ List.replicate len y ++ xs.drop (off + len))))] }
        | none => none
      else none
    | _ => none
  | _, _ => none

def lenEff (P : Program) : List D → List TypeId → Option Eff
  | [x], [t] => match P.underlying t with
    | some (.slice _) => match lenD x with
      | some n => some { val := .v (.int .i64 (n : Nat)) }
      | none => none
    | some .string => match x with
      | .v (.string s) => some { val := .v (.int .i64 (s.size : Nat)) }
      | _ => none
    | some (.array n _) => some { val := .v (.int .i64 (n : Nat)) }
    | _ => none
  | _, _ => none

def capEff (P : Program) : List D → List TypeId → Option Eff
  | [x], [t] => match P.underlying t with
    | some (.slice _) => match x with
      | .own _ _ _ (some k) => some { val := .v (.int .i64 (k : Nat)) }
      | _ => none
    | _ => none
  | _, _ => none

def minEff : List D → Option Eff
  | [.v (.int k x), .v (.int _ y)] => some { val := .v (.int k (if y < x then y else x)) }
  | _ => none

def maxEff : List D → Option Eff
  | [.v (.int k x), .v (.int _ y)] => some { val := .v (.int k (if y > x then y else x)) }
  | _ => none

/-- The built-in functions. -/
def biEff (P : Program) (rd : Nat → Option Row) (nid : Nat) (b : Builtin) (args : List D) (ts : List TypeId) : Option Eff :=
  match b with
  | .len => lenEff P args ts
  | .cap => capEff P args ts
  | .min => minEff args
  | .max => maxEff args
  | .append => match args, ts with
    | [s, x], [t, t'] => match P.underlying t, P.underlying t' with
      | some (.slice e), some (.slice _) => appEff P rd nid s x e
      | _, _ => none
    | _, _ => none
  | .copy => match args, ts with
    | [s, x], [t, _] => match P.underlying t with
      | some (.slice e) => copyEff P rd s x e
      | _ => none
    | _, _ => none
  | .clear => match args, ts with
    | [s], [t] => match P.underlying t with
      | some (.slice e) => clearEff P rd s e
      | _ => none
    | _, _ => none
  | _ => none

/-- The room of a slice that is made, where it is known beforehand. -/
def capM : Operand → Operand → Nat → Option Nat
  | .tmp a, .tmp b, n => if a = b then some n else none
  | .const _, .const _, n => some n
  | _, _, _ => none

theorem capM_cases (l c : Operand) (n : Nat) : capM l c n = some n ∨ capM l c n = none := by
  unfold capM
  split
  · split
    · exact .inl rfl
    · exact .inr rfl
  · exact .inl rfl
  · exact .inr rfl

def opEff (P : Program) (rd : Nat → Option Row) (nid : Nat) (sp : Sp) (o : Oper) (ev : Operand → D) : Option Eff :=
  match o.op with
  | .move x | .assign x => some { val := ev x }
  | .pick c a b => match ev c with
    | .v (.bool t) => match ev a, ev b with
      | .v (.bool p), .v (.bool q) => some { val := .v (.bool (cond t p q)) }
      | da, db => match t with
        | true => some { val := da }
        | false => some { val := db }
    | _ => none
  | .alloc t => (zeroD P t).map fun cs => { val := .ptr nid 0 0, allocs := [.box t cs] }
  | .box t x => (cellsOf (ev x)).map fun cs => { val := .ptr nid 0 0, allocs := [.box t cs] }
  | .build t parts => match P.underlying t, zeroD P t with
    | some (.struct fs), some z => match fs.toList.mapM (fun f => (P.info? f.type).map fun i => (f.offset, i.size)) with
      | some places => (fillD (places.toArray[·]?) z (parts.toList.map fun (i, x) => (i, ev x))).map fun cs => { val := .agg cs }
      | none => none
    | some (.array _ e), some z => match P.info? e with
      | some ie => (fillD (fun i => some (i * ie.size, ie.size)) z (parts.toList.map fun (i, x) => (i, ev x))).map fun cs => { val := .agg cs }
      | none => none
    | _, _ => none
  | .buildSlice t len parts => match P.underlying t with
    | some (.slice e) => match tyOf P tyFuel e, zeroD P e with
      | some ty, some z =>
        if ty.size = P.cellsOf e && ty.size ≠ 0 && len * ty.size ≤ 4096 then
          match fillD (fun i => some (i * ty.size, ty.size)) (List.replicate len z).flatten (parts.toList.map fun (i, x) => (i, ev x)) with
          | some cs => if boxyB len cs then some { val := .bsl nid len ty.size, allocs := [.box e cs] } else match elems rd ty len cs with
            | some xs => if nodupB (killIds cs) then some { val := .own nid 0 len (some len), allocs := [.data e ty xs], writes := kills cs } else none
            | none => none
          | none => none
        else none
      | _, _ => none
    | _ => none
  | .load t a => match sizeB P t with
    | some s => match ev a with
      | .ptr id i off => match rd id with
        | some (.box _ cs) => if off + s ≤ cs.length then (valD P t ((cs.drop off).take s)).map fun d => { val := d } else none
        | some (.data _ ty xs) => if off + s ≤ ty.size then (valD P t (((ty.cells (xs.getD i ty.dflt)).drop off).take s)).map fun d => { val := d, obl := [i < xs.length] } else none
        | none => none
      | .rptr cs => if s ≤ cs.length then (valD P t (cs.take s)).map fun d => { val := d } else none
      | _ => none
    | none => none
  | .store t a x => match sizeB P t, cellsOf (ev x) with
    | some s, some cs => if cs.length = s then match ev a with
      | .ptr id i off => match rd id with
        | some (.box bt old) => if off + s ≤ old.length then some { val := .v undef, writes := [(id, some (.box bt (old.take off ++ cs ++ old.drop (off + s))))] } else none
        | some (.data e ty xs) =>
          if off + s ≤ ty.size && nodupB (id :: killIds cs) then
            let old := ty.cells (xs.getD i ty.dflt)
            match ty.ofCells rd (old.take off ++ cs ++ old.drop (off + s)) with
            | some y => some { val := .v undef, writes := (id, some (.data e ty (xs.set i y))) :: kills cs, obl := [i < xs.length] }
            | none => none
          else none
        | none => none
      | _ => none
      else none
    | _, _ => none
  | .nilCheck x => match ev x with
    | .ptr id i off => match rd id with
      | some _ => some { val := .ptr id i off }
      | none => none
    | .rptr cs => some { val := .rptr cs }
    | _ => none
  | .binOp op t x y _ => match binD op (ev x) (ev y) with
    | some (v, ps) => some { val := .v v, obl := ps }
    | none => (eqD P op t (ev x) (ev y)).map fun v => { val := .v v }
  | .unOp op _ x => match op, ev x with
    | .not, .v (.bool b) => some { val := .v (.bool (!b)) }
    | .neg, .v (.int k n) => some { val := .v (.int k (k.wrap (0 - n))) }
    | _, _ => none
  | .convert src dst x => match P.underlying dst, ev x with
    | some (.int k), .v (.int _ n) => if (P.underlying src).isSome then some { val := .v (.int k (k.wrap n)) } else none
    | _, _ => none
  | .makeFunc (.func f) first caps => if first.size = 0 then some { val := .fn f (caps.toList.map ev) } else none
  | .makeSlice t lo co => match P.underlying t, ev lo, ev co with
    | some (.slice e), .v (.int _ l), .v (.int _ c) => match tyOf P tyFuel e, zeroD P e with
      | some ty, some z => if ty.size = P.cellsOf e && ty.size ≠ 0 then match ty.ofCells rd z with
          | some y => some { val := .own nid 0 l.toNat (capM lo co c.toNat), allocs := [.data e ty (List.replicate c.toNat y)],
                             obl := [0 ≤ l, l ≤ c, c ≤ 9223372036854775807, c.toNat * P.bytesOf e ≤ 281474976710656] }
          | none => none
        else none
      | _, _ => none
    | _, _, _ => none
  | .slice t x lo hi mx => match P.underlying t, optInt (lo.map ev), optInt (hi.map ev), optInt (mx.map ev) with
    | some (.slice e), some lo, some hi, some mx => if mx.isSome && hi.isNone then none else match ev x with
      | .own id off len cap => match rd id with
        | some (.data _ ty xs) =>
          if ty.size = P.cellsOf e && ty.size ≠ 0 then
            let l := (lo.getD 0); let h := hi.getD len
            match mx, cap with
            | none, none => some { val := .own id (off + l.toNat) (h.toNat - l.toNat) none, obl := [0 ≤ l, l ≤ h, h ≤ ((xs.length - off : Nat) : Int)] }
            | none, some c => some { val := .own id (off + l.toNat) (h.toNat - l.toNat) (some (c - l.toNat)), obl := [0 ≤ l, l ≤ h, h ≤ (c : Int), off + c ≤ xs.length] }
            | some m, none => some { val := .own id (off + l.toNat) (h.toNat - l.toNat) (some (m.toNat - l.toNat)), obl := [0 ≤ l, l ≤ h, h ≤ m, m ≤ ((xs.length - off : Nat) : Int)] }
            | some m, some c => some { val := .own id (off + l.toNat) (h.toNat - l.toNat) (some (m.toNat - l.toNat)), obl := [0 ≤ l, l ≤ h, h ≤ m, m ≤ (c : Int), off + c ≤ xs.length] }
          else none
        | _ => none
      | .sl nn _ ty xs =>
          if ty.size = P.cellsOf e && ty.size ≠ 0 then
            let l := (lo.getD 0); let h := hi.getD xs.length
            match mx with
            | none => some { val := .sl nn false ty ((xs.drop l.toNat).take (h.toNat - l.toNat)), obl := [0 ≤ l, l ≤ h, h ≤ (xs.length : Int)] }
            | some m => some { val := .sl nn true ty ((xs.drop l.toNat).take (h.toNat - l.toNat)), obl := [0 ≤ l, l ≤ h, h = m, m ≤ (xs.length : Int)] }
          else none
      | _ => none
    | _, _, _, _ => none
  | .fieldAddr t x f => match P.underlying t with
    | some (.struct fs) => match fs[f]? with
      | some fd => if P.cellsOf fd.type ≠ 0 then match ev x with
          | .ptr id i off => match rd id with
            | some _ => some { val := .ptr id i (off + fd.offset) }
            | none => none
          | .rptr cs => some { val := .rptr (cs.drop fd.offset) }
          | _ => none
        else none
      | none => none
    | _ => none
  | .indexAddr t x ix => match ev ix with
    | .v (.int _ i) => match P.underlying t with
      | some (.slice e) => match ev x with
        | .own id off len _ => match rd id with
          | some (.data _ ty _) => if ty.size = P.cellsOf e && ty.size ≠ 0 then some { val := .ptr id (off + i.toNat) 0, obl := [0 ≤ i, i < (len : Int)] } else none
          | _ => none
        | .bsl id len sz => match rd id with
          | some (.box _ _) => if sz = P.cellsOf e && sz ≠ 0 then some { val := .ptr id 0 (i.toNat * sz), obl := [0 ≤ i, i < (len : Int)] } else none
          | _ => none
        | .sl _ _ ty xs => if ty.size = P.cellsOf e && ty.size ≠ 0 then some { val := .rptr (ty.cells (xs.getD i.toNat ty.dflt)), obl := [0 ≤ i, i < (xs.length : Int)] } else none
        | _ => none
      | some (.array len e) => if P.cellsOf e = 0 then none else match ev x with
        | .ptr id j off => match rd id with
          | some (.box _ _) => some { val := .ptr id j (off + i.toNat * P.cellsOf e), obl := [0 ≤ i, i < (len : Int)] }
          | _ => none
        | .rptr cs => some { val := .rptr (cs.drop (i.toNat * P.cellsOf e)), obl := [0 ≤ i, i < (len : Int)] }
        | _ => none
      | _ => none
    | _ => none
  | .index t x ix => match ev ix, P.underlying t, ev x with
    | .v (.int _ i), some (.array len e), .agg cs => match sizeB P e with
      | some s => (valD P e ((cs.drop (i.toNat * s)).take s)).map fun d => { val := d, obl := [0 ≤ i, i < (len : Int), i.toNat * s + s ≤ cs.length] }
      | none => none
    | _, _, _ => none
  | .extract t i => match ev t with
    | .tup ds => (ds[i]?).map fun d => { val := d }
    | _ => none
  | .call c => match c.callee with
    | .value f => match ev f with
      | .fn g caps => match sp g (c.args.toList.map ev ++ caps) rd with
        | some n => callEff P rd nid n (.fn g caps) (c.args.toList.map ev)
        | none => none
      | _ => none
    | .builtin b => biEff P rd nid b (c.args.toList.map ev) c.argTypes.toList
    | _ => none
  | _ => none

/-- One operation, with its own new numbers, the numbers that it must not read, and whether it may write. -/
structure Dec where
  o : Oper
  nid : Nat
  cnt : Nat
  forb : List Nat
  wr : Bool
  sp : Sp
  fix : Option Bool

def putD (tmps : List D) : Option Tmp → D → List D
  | some d, x => tmps.set d x
  | none, _ => tmps

def wantedD (ops : Array Oper) (tmps : List D) (o : Oper) : Option Bool :=
  match o.guard with
  | none => some true
  | some (j, want) => match (ops[j]?).bind (·.dst) with
    | some t => match tmps[t]? with
      | some (.v (.bool b)) => some (b == want)
      | some (.v (.tuple _)) => some false
      | _ => none
    | none => none

def rdOf (H : Heap) (forb : List Nat) (id : Nat) : Option Row := if forb.contains id then none else hget H id

def setAllocs : Heap → Nat → List Row → Heap
  | H, _, [] => H
  | H, n, r :: rs => setAllocs (H.set n (.live r)) (n + 1) rs

def setWrites : Heap → List (Nat × Option Row) → Heap
  | H, [] => H
  | H, (id, r) :: ws => setWrites (H.set id (slotOf r)) ws

def freeB (H : Heap) (nid n : Nat) : Bool := (List.range n).all fun j => decide (nid + j < H.length) && (match slot H (nid + j) with | .free => true | _ => false)

/-- What is assumed of the answer (a side condition then). -/
def fixE (fix : Option Bool) (E : Eff) : Option Eff :=
  match fix with
  | none => some E
  | some c => match E.val with
    | .v (.bool b) => some { E with val := .v (.bool c), obl := (b = c) :: E.obl }
    | _ => none

def effD (P : Program) (rd : Nat → Option Row) (d : Dec) (ev : Operand → D) : Option Eff :=
  match opEff P rd d.nid d.sp d.o ev with
  | some E => fixE d.fix E
  | none => none

def stepD (P : Program) (ops : Array Oper) (d : Dec) (s : St) : Option (St × List Prop) :=
  match wantedD ops s.tmps d.o with
  | some true => match effD P (rdOf s.heap d.forb) d (evalD s.tmps) with
    | some E => if (d.wr || E.writes.isEmpty) && decide (E.allocs.length ≤ d.cnt) && freeB s.heap d.nid E.allocs.length && E.writes.all (fun p => (rdOf s.heap d.forb p.1).isSome) then
        some (⟨putD s.tmps d.o.dst E.val, setWrites (setAllocs s.heap d.nid E.allocs) E.writes⟩, E.obl)
      else none
    | none => none
  | some false => some (⟨putD s.tmps d.o.dst (.v undef), s.heap⟩, [])
  | none => none

def runD (P : Program) (ops : Array Oper) : List Dec → St → Option (St × List Prop)
  | [], s => some (s, [])
  | d :: ds, s => match stepD P ops d s with
    | some (s', ps) => match runD P ops ds s' with
      | some (s'', qs) => some (s'', ps ++ qs)
      | none => none
    | none => none

/-- How many new rows an operation may bring. -/
def weight (o : Oper) : Nat :=
  match o.op with
  | .alloc _ | .box _ _ | .buildSlice _ _ _ | .makeSlice _ _ _ => 1
  | .call c => match c.callee with
    | .builtin .append => 1
    | .value _ => 4
    | _ => 0
  | _ => 0

/-- Does it look at the call's own rows, or turn them? -/
def heapy (o : Oper) : Bool :=
  match o.op with
  | .load _ _ | .store _ _ _ | .buildSlice _ _ _ | .slice _ _ _ _ _ | .indexAddr _ _ _ | .makeSlice _ _ _ | .fieldAddr _ _ _ | .nilCheck _ => true
  | .call c => match c.callee with
    | .builtin .len | .builtin .cap | .builtin .min | .builtin .max => false
    | _ => true
  | _ => false

/-- The operations with their numbers, in the text's order. -/
def decs (sp : Sp) (asm : List (Nat × Bool)) : Nat → Nat → List Oper → List Dec
  | _, _, [] => []
  | i, nid, o :: os => ⟨o, nid, weight o, [], true, sp, asm.lookup i⟩ :: decs sp asm (i + 1) (nid + weight o) os

def total : List Oper → Nat
  | [] => 0
  | o :: os => weight o + total os

def ordered (b : Array Nat) (i j : Nat) : Bool := (b.getD j 0).testBit i || (b.getD i 0).testBit j

/-- In a region that takes any order: what may come up on either side of an operation it must not read; and it may write only if nothing that looks at rows may. -/
def guardDecs (b : Array Nat) (all : List (Nat × Dec)) : List (Nat × Dec) → List Dec
  | [] => []
  | (i, d) :: ds =>
    { d with
      forb := all.flatMap fun (j, e) => if j ≠ i && !ordered b i j then List.range' e.nid e.cnt else []
      wr := all.all fun (j, e) => j = i || ordered b i j || !heapy e.o } :: guardDecs b all ds

def numbered (l : List Dec) : List (Nat × Dec) := (List.range l.length).zip l

def decsDraw (sp : Sp) (asm : List (Nat × Bool)) (nid : Nat) (ops : Array Oper) : List Dec :=
  let l := numbered (decs sp asm 0 nid ops.toList)
  guardDecs (Region.before ops) l l

def apartAll (ops : Array Oper) (b : Array Nat) : Bool :=
  (List.range ops.size).all fun j => (List.range j).all fun i => ordered b i j || match ops[i]?, ops[j]? with
    | some x, some y => x.apart ops y
    | _, _ => false

/-- What must have come before each operation. -/
def bitsOf (B : Array Nat) (o : Oper) : Nat := o.after.toList.foldl (fun s e => if Region.binds .any e then s ||| 2 ^ e.on ||| B.getD e.on 0 else s) 0

def orderB (ops : Array Oper) (B : Array Nat) : Bool :=
  (List.range ops.size).all fun k => match ops[k]? with
    | some o => B.getD k 0 == bitsOf B o && o.after.toList.all fun e => !Region.binds .any e || decide (e.on < k)
    | none => true

/-- A region: its operations' numbers lie behind the rows that are there. -/
def runR (P : Program) (sp : Sp) (asm : List (Nat × Bool)) (ops : Array Oper) (draw : Bool) (s : St) : Option (St × List Prop) :=
  let n := s.heap.length
  let s' : St := ⟨s.tmps, s.heap ++ List.replicate (total ops.toList) .free⟩
  if draw then
    if apartAll ops (Region.before ops) && orderB ops (Region.before ops) then runD P ops (decsDraw sp asm n ops) s' else none
  else runD P ops (decs sp asm 0 n ops.toList) s'

end Go.Proofs.YtnakmganodkliaaAm
