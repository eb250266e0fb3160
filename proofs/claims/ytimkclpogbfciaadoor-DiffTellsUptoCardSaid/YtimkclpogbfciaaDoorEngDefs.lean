/- The engine, first part: values without addresses, and what a function comes to over them. Nothing is proved here. -/
import Derived.Orders
import Derived.Below
import Derived.LoopN
set_option linter.unusedVariables false
set_option linter.unusedSimpArgs false
namespace Go.Eng
inductive T where
 | sc (v : Value)
 | list (es : List T)
 | agg (cs : List T)
 | vac
 deriving Inhabited
def T.cells : T -> List T
 | .agg cs => cs
 | .sc v => [.sc v]
 | .list es => [.list es]
 | .vac => [.vac]
inductive V where
 | undef
 | any
 | nil
 | t (x : T)
 | own (sz : Nat) (es : List T)
 | ptr (id off : Nat)
 | aptr (id off st n : Nat) (k : Int)
 | cptr (cs : List T)
 | agg (vs : List V)
 | tup (vs : List V)
 | fn (f : FuncId) (caps : List V)
 deriving Inhabited
def V.plain : V -> V
 | .own _ es => .t (.list es)
 | v => v
def V.toT : V -> Option T
 | .t x => some x
 | .own _ es => some (.list es)
 | .nil => some (.list [])
 | _ => none
def V.list : V -> Option (List T)
 | .t (.list es) => some es
 | .t .vac => some []
 | .own _ es => some es
 | .nil => some []
 | _ => none
def allT : List V -> Option (List T)
 | [] => some []
 | v :: vs => match v.toT, allT vs with
  | some x, some xs => some (x :: xs)
  | _, _ => none
def V.elem : V -> Option T
 | .agg vs => (allT vs).map .agg
 | v => v.toT
def V.one : V -> Bool
 | .undef | .any | .agg _ | .tup _ => false
 | _ => true
def V.asPtr : V -> Option (Nat × Nat)
 | .ptr id off => some (id, off)
 | .aptr id off st _ k => some (id, off + k.toNat * st)
 | _ => none
def V.isAny : V -> Bool
 | .any => true
 | _ => false
def V.cells : V -> List V
 | .agg vs => vs
 | v => [v]
def flat : Value -> Bool
 | .bool _ | .int .. | .float .. | .complex .. | .string _ | .pointer none | .nilFunc | .nilIface => true
 | .iface _ v => flat v
 | _ => false
def cellOf : Value -> Option V
 | .slice none 0 0 => some .nil
 | v => if flat v then some (.t (.sc v)) else none
def cellsOf : List Value -> Option (List V)
 | [] => some []
 | v :: vs => match cellOf v, cellsOf vs with
  | some x, some xs => some (x :: xs)
  | _, _ => none
def ofConst : Value -> Option V
 | .agg cs => (cellsOf cs.toList).map .agg
 | v => cellOf v
abbrev Env := List V
abbrev Sig := List (Option (List V))
def Env.at (e : Env) (k : Nat) : V := e.getD k .undef
def Env.put (e : Env) : Option Nat -> V -> Env
 | none, _ => e
 | some d, v => e.set d v
def tySize (P : Program) (t : TypeId) : Option Nat := (P.info? t).map (·.size)
def tyAgg (P : Program) (t : TypeId) : Option Bool :=
 match P.underlying t with
 | some (.struct _) | some (.array _ _) => some true
 | some _ => some false
 | none => none
def tyField (P : Program) (t : TypeId) (f : Nat) : Option Field :=
 match P.underlying t with
 | some (.struct fs) => fs[f]?
 | _ => none
def tyElem (P : Program) (t : TypeId) : Option TypeId :=
 match P.underlying t with
 | some (.slice e) => some e
 | _ => none
def tyArr (P : Program) (t : TypeId) : Option (Nat × TypeId) :=
 match P.underlying t with
 | some (.array n e) => some (n, e)
 | _ => none
def placesOf (P : Program) : List Field -> Option (List (Nat × Nat))
 | [] => some []
 | f :: fs => match tySize P f.type, placesOf P fs with
  | some n, some r => some ((f.offset, n) :: r)
  | _, _ => none
def tyPlaces (P : Program) (t : TypeId) : Option (List (Nat × Nat)) :=
 match P.underlying t with
 | some (.struct fs) => placesOf P fs.toList
 | _ => none
def tyZero (P : Program) (t : TypeId) : Option Value := (P.info? t).bind (·.zero)
def tyBytes (P : Program) (t : TypeId) : Option Nat := (P.info? t).map (·.bytes)
def runPure (P : Program) {α : Type} : Sem α -> Option α
 | .pure a => some a
 | .program k => runPure P (k P)
 | _ => none
def rdF (f : Nat -> V) : Operand -> Option V
 | .tmp t => some (f t).plain
 | .const v => ofConst v
 | .func f => some (.fn f [])
 | .global _ => none
abbrev rd (e : Env) : Operand -> Option V := rdF e.at
def flatL : List V -> Option (List Value)
 | [] => some []
 | .t (.sc v) :: r => (flatL r).map (v :: ·)
 | _ => none
def rdV (ρ : Operand -> Option V) (x : Operand) : Value :=
 match ρ x with
 | some (.t (.sc v)) => v
 | some (.agg vs) => (match flatL vs with
  | some l => .agg l.toArray
  | none => undef)
 | _ => undef
def isSc (ρ : Operand -> Option V) (x : Operand) : Bool :=
 match ρ x with
 | some (.t (.sc _)) => true
 | some (.agg vs) => (flatL vs).isSome
 | _ => false
def scalar (P : Program) (ρ : Operand -> Option V) (o : Oper) : Option V :=
 if o.op.operands.toList.all (isSc ρ) then
  match runPure P (execOp (rdV ρ) o) with
  | some (.value v) => if flat v then some (.t (.sc v)) else none
  | _ => none
 else none
def partV (agg : Bool) (n off : Nat) (vs : List V) : Option V :=
 if agg then (if off + n <= vs.length then some (.agg ((vs.drop off).take n)) else none) else vs[off]?
def intOp (ρ : Operand -> Option V) : Option Operand -> Option (Option Int)
 | none => some none
 | some x => match ρ x with
  | some (.t (.sc (.int _ i))) => some (some i)
  | _ => none
def setCells : List V -> Nat -> List V -> List V
 | vs, _, [] => vs
 | vs, off, c :: cs => setCells (vs.set off c) (off + 1) cs
def fillV (place : Nat -> Option (Nat × Nat)) (cells : List V) : List (Nat × V) -> Option (List V)
 | [] => some cells
 | (i, v) :: rest =>
  match place i with
  | none => none
  | some (off, size) => if v.isAny = false /\ v.cells.length = size /\ off + size <= cells.length then fillV place (setCells cells off (v.cells.map V.plain)) rest else none
def rdParts (ρ : Operand -> Option V) : List (Nat × Operand) -> Option (List (Nat × V))
 | [] => some []
 | (i, x) :: r => match ρ x, rdParts ρ r with
  | some v, some vs => some ((i, v) :: vs)
  | _, _ => none
def rdAll (ρ : Operand -> Option V) : List Operand -> Option (List V)
 | [] => some []
 | x :: r => match ρ x, rdAll ρ r with
  | some v, some vs => some (v :: vs)
  | _, _ => none
def partsInOrder : Nat -> List (Nat × V) -> Option (List T)
 | _, [] => some []
 | k, (i, v) :: r => if i = k then (match v.elem, partsInOrder (k + 1) r with
  | some x, some xs => some (x :: xs)
  | _, _ => none) else none
def elemOfCells : List T -> T
 | [x] => x
 | zs => .agg zs
def bytesL : List T -> Option (List UInt8)
 | [] => some []
 | .sc (.int .u8 n) :: r => (bytesL r).map (UInt8.ofNat n.toNat :: ·)
 | _ => none
def isConst : Operand -> Bool
 | .const _ => true
 | _ => false
def evN (P : Program) (ρ : Operand -> Option V) (sig : Sig) (o : Oper) : Option (V × Option Nat) :=
 match o.op with
 | .move x => (ρ x).map (·, none)
 | .pick c a b =>
  match ρ c with
  | some (.t (.sc (.bool true))) => (ρ a).map (·, none)
  | some (.t (.sc (.bool false))) => (ρ b).map (·, none)
  | _ => none
 | .extract x i =>
  match ρ x with
  | some (.tup vs) => (vs[i]?).map (·, none)
  | _ => none
 | .nilCheck x =>
  match ρ x with
  | some (.ptr id off) => some (.ptr id off, none)
  | some (.cptr cs) => some (.cptr cs, none)
  | some (.aptr id off st n k) => some (.aptr id off st n k, none)
  | some (.fn f caps) => some (.fn f caps, none)
  | _ => none
 | .field t x f =>
  match ρ x, tyField P t f with
  | some (.agg vs), some fd =>
   (match tyAgg P fd.type, tySize P fd.type with
    | some a, some n => (partV a n fd.offset vs).map (·, none)
    | _, _ => none)
  | _, _ => none
 | .fieldAddr t x f =>
  match ρ x, tyField P t f with
  | some (.ptr id off), some fd => if (tySize P fd.type).any (· ≠ 0) then some (.ptr id (off + fd.offset), none) else none
  | some (.cptr cs), some fd => if (tySize P fd.type).any (· ≠ 0) /\ fd.offset <= cs.length then some (.cptr (cs.drop fd.offset), none) else none
  | some (.aptr id off st n k), some fd => if (tySize P fd.type).any (· ≠ 0) then some (.aptr id (off + fd.offset) st n k, none) else none
  | _, _ => none
 | .indexAddr t x i =>
  match ρ x, ρ i with
  | some (.t (.list es)), some (.t (.sc (.int _ k))) =>
   (match (tyElem P t).bind (tySize P) with
    | some sz => if 0 <= k then (match es[k.toNat]? with
     | some y => if y.cells.length = sz then some (.cptr y.cells, none) else none
     | none => none) else none
    | none => none)
  | some (.ptr id off), some (.t (.sc (.int _ k))) =>
   (match tyArr P t with
    | some (n, el) => (match tySize P el with
     | some sz => if 0 <= k /\ k < n then some (if isConst i then .ptr id (off + k.toNat * sz) else .aptr id off sz n k, none) else none
     | none => none)
    | none => none)
  | _, _ => none
 | .index t x i =>
  match ρ x, ρ i with
  | some (.agg vs), some (.t (.sc (.int _ k))) =>
   (match tyArr P t with
    | some (n, el) => (match tyAgg P el, tySize P el with
     | some a, some sz => if 0 <= k /\ k < n then (partV a sz (k.toNat * sz) vs).map (·, none) else none
     | _, _ => none)
    | none => none)
  | _, _ => (scalar P ρ o).map (·, none)
 | .slice t x lo hi mx =>
  match ρ x with
  | some (.t (.list es)) =>
   (match (tyElem P t).bind (tySize P), intOp ρ lo, intOp ρ hi, intOp ρ mx with
    | some sz, some l, some h, some m =>
     let h' := (h.getD es.length)
     let l' := (l.getD 0)
     if 0 <= l' /\ l' <= h' /\ h' <= es.length /\ 0 < sz /\ es.all (fun y => y.cells.length == sz) then
      (match m with
       | none => some (.t (.list ((es.take h'.toNat).drop l'.toNat)), none)
       | some m' => if m' = h' /\ h.isSome then some (.own sz ((es.take h'.toNat).drop l'.toNat), none) else none)
     else none
    | _, _, _, _ => none)
  | some .nil =>
   (match tyElem P t, intOp ρ lo, intOp ρ hi, intOp ρ mx with
    | some el, some l, some h, some m => if l.getD 0 = 0 /\ h.getD 0 = 0 /\ m.getD 0 = 0 /\ (m.isSome -> h.isSome) /\ (tySize P el).isSome then some (.nil, none) else none
    | _, _, _, _ => none)
  | some (.t (.sc _)) => (scalar P ρ o).map (·, none)
  | _ => none
 | .build t parts =>
  match (tyZero P t).bind (fun z => cellsOf z.cells.toList), rdParts ρ parts.toList with
  | some zs, some ps =>
   (match tyPlaces P t with
    | some fs => ((fillV (fun i => fs[i]?) zs ps).map V.agg).map (·, none)
    | none =>
     (match tyArr P t with
      | some (_, el) => (match tySize P el with
       | some sz => ((fillV (fun i => some (i * sz, sz)) zs ps).map V.agg).map (·, none)
       | none => none)
      | none => none))
  | _, _ => none
 | .buildSlice t len parts =>
  match tyElem P t, rdParts ρ parts.toList with
  | some el, some ps =>
   (match partsInOrder 0 ps, tySize P el with
    | some es, some sz => if es.length = len /\ 0 < sz /\ len * sz <= 16777216 /\ es.all (fun y => y.cells.length == sz) /\ (tyZero P el).isSome then some (.own sz es, none) else none
    | _, _ => none)
  | _, _ => none
 | .makeSlice t l c =>
  match tyElem P t, ρ l, ρ c with
  | some el, some (.t (.sc (.int .i64 n))), some (.t (.sc (.int .i64 m))) =>
   (match tySize P el, tyBytes P el, tyZero P el with
    | some sz, some by_, some z =>
     (match (cellsOf z.cells.toList).bind allT with
      | some zs => if n = m /\ 0 <= n /\ n <= 1073741824 /\ by_ <= 1024 /\ 0 < sz /\ zs.length = sz then
        some (.own sz (List.replicate n.toNat (elemOfCells zs)), none) else none
      | none => none)
    | _, _, _ => none)
  | _, _, _ => none
 | .makeFunc fn first caps =>
  match fn, first.toList, rdAll ρ caps.toList with
  | .func f, [], some vs => some (.fn f vs, none)
  | _, _, _ => none
 | .load t x =>
  match ρ x, tyAgg P t, tySize P t with
  | some (.ptr id off), some a, some n =>
   (match sig[id]? with
    | some (some cs) => (partV a n off (cs.map V.plain)).map (·, some id)
    | _ => none)
  | some (.cptr cs), some a, some n => (partV a n 0 (cs.map V.t)).map (·, none)
  | some (.aptr id off st _ k), some a, some n =>
   (match sig[id]? with
    | some (some cs) => (partV a n (off + k.toNat * st) (cs.map V.plain)).map (·, some id)
    | _ => none)
  | _, _, _ => none
 | .call c =>
  match c.callee with
  | .builtin .len =>
   (match ((c.args[0]?).bind ρ).bind V.list, c.argTypes[0]? with
    | some es, some t => if (tyElem P t).isSome then some (.t (.sc (.int .i64 es.length)), none) else none
    | _, _ => (scalar P ρ o).map (·, none))
  | .builtin .append => none
  | .builtin _ => (scalar P ρ o).map (·, none)
  | _ => none
 | .binOp .eql t x y _ =>
  match ρ x, ρ y, tyElem P t with
  | some .nil, some .nil, some _ => some (.t (.sc (.bool true)), none)
  | some (.t (.list (_ :: _))), some .nil, some _ => some (.t (.sc (.bool false)), none)
  | some (.t .vac), some .nil, some _ => some (.t (.sc (.bool false)), none)
  | _, _, _ => (scalar P ρ o).map (·, none)
 | .convert src dst x =>
  match ρ x, tyElem P src, P.underlying dst with
  | some (.t (.list es)), some el, some .string =>
   (match P.underlying el, bytesL es with
    | some (.int .u8), some l => some (.t (.sc (.string ⟨l.toArray⟩)), none)
    | _, _ => none)
  | _, _, _ => (scalar P ρ o).map (·, none)
 | .binOp .. | .unOp .. | .makeInterface .. => (scalar P ρ o).map (·, none)
 | _ => none
inductive Loc where
 | nil
 | slot (s : Nat)
 | box (id off : Nat)
 | arg (i : Nat)
 | res
 deriving DecidableEq
def isE (o : Oper) : Bool :=
 match o.op with
 | .assign _ | .store .. => true
 | .call c => match c.callee with
  | .builtin .append => true
  | .builtin _ => false
  | _ => true
 | _ => false
def writer (ops : List Oper) (d i : Nat) : Option (Nat × Oper) :=
 match (ops.zipIdx).filter (fun x => x.1.dst == some d) with
 | [(o, j)] => if j < i then some (j, o) else none
 | _ => none
def laterOnly (ops : List Oper) (s i : Nat) : Bool := (ops.zipIdx).all fun x => x.1.dst != some s || (decide (i < x.2) && isE x.1)
def stillAddr (ops : List Oper) (j : Nat) : Operand -> Bool
 | .tmp p => ops.all (fun o => o.dst != some p) || (writer ops p j).isSome
 | _ => false
def locOf (P : Program) (ops : List Oper) (base i : Nat) (f : Nat -> V) (sig : Sig) (tl : List (Option (List Nat))) : Operand -> Option (Loc × Nat × List T)
 | .const (.slice none 0 0) => some (.nil, 0, [])
 | .tmp d =>
  match f d with
  | .nil => some (.nil, 0, [])
  | .own sz es => some (.slot d, sz, es)
  | .t (.list _) =>
   (match writer ops d i with
    | some (j, o) =>
     (match o.op with
      | .move (.tmp s) =>
       (match f s with
        | .own sz es => if laterOnly ops s i then some (.slot s, sz, es) else none
        | _ => none)
      | .load t ad =>
       (match rdF f ad, tyAgg P t with
        | some (.ptr id off), some false =>
         (match sig[id]? with
          | some (some cs) => (match cs[off]? with
           | some (.own sz es) => if decide (id < base) && stillAddr ops j ad && tl.all (fun x => match x with | some ids => !ids.contains id | none => true) then some (.box id off, sz, es) else none
           | _ => none)
          | _ => none)
        | _, _ => none)
      | _ => none)
    | _ => none)
  | _ => none
 | _ => none
def consume (e : Env) (sig : Sig) : Loc -> List T -> Env × Sig
 | .slot s, es => (e.set s (.t (.list es)), sig)
 | .box id off, es => (e, sig.set id ((sig.getD id none).map fun cs => cs.set off (.t (.list es))))
 | _, _ => (e, sig)
def gives (ops : List Oper) : Operand -> Loc -> Bool
 | .tmp d, .slot s => d == s || ops.any (fun o => o.dst == some s)
 | _, .box .. => ops.any (fun o => o.op matches .store ..)
 | _, .nil => true
 | _, _ => false
def handOn (P : Program) (all : Bool) (ops : List Oper) (base i : Nat) (e : Env) (sig : Sig) (tl : List (Option (List Nat))) (x : Operand) : Option (V × Env × Sig) :=
 match locOf P ops base i e.at sig tl x with
 | some (.nil, _, _) => some (.nil, e, sig)
 | some (l, sz, es) => if all || gives ops x l then (let r := consume e sig l es; some (.own sz es, r.1, r.2)) else (rd e x).map (·, e, sig)
 | none => (rd e x).map (·, e, sig)
def handAll (P : Program) (ops : List Oper) (base i : Nat) (e : Env) (sig : Sig) (tl : List (Option (List Nat))) : List Operand -> Option (List V × Env × Sig)
 | [] => some ([], e, sig)
 | x :: r => match handOn P false ops base i e sig tl x with
  | some (v, e1, sig1) => (match handAll P ops base i e1 sig1 tl r with
   | some (vs, e2, sig2) => some (v :: vs, e2, sig2)
   | none => none)
  | none => none
mutual
def V.ids : V -> List Nat
 | .ptr id _ => [id]
 | .aptr id _ _ _ _ => [id]
 | .agg vs => idsL vs
 | .tup vs => idsL vs
 | .fn _ caps => idsL caps
 | _ => []
def idsL : List V -> List Nat
 | [] => []
 | v :: vs => v.ids ++ idsL vs
end
def dedup : List Nat -> List Nat
 | [] => []
 | x :: xs => if xs.contains x then dedup xs else x :: dedup xs
def nodupB : List Nat -> Bool
 | [] => true
 | x :: xs => !xs.contains x && nodupB xs
def idsOf (sig : Sig) (id : Nat) : List Nat :=
 match sig[id]? with
 | some (some cs) => idsL cs
 | _ => []
def close (sig : Sig) : Nat -> List Nat -> List Nat
 | 0, l => l
 | n + 1, l =>
  let m := l.flatMap (idsOf sig)
  if m.all l.contains then l else close sig n (dedup (l ++ m))
mutual
def V.ren (ρ : Nat -> Option Nat) : V -> Option V
 | .ptr id off => (ρ id).map (.ptr · off)
 | .aptr id off st n k => (ρ id).map (.aptr · off st n k)
 | .agg vs => (renL ρ vs).map .agg
 | .tup vs => (renL ρ vs).map .tup
 | .fn f caps => (renL ρ caps).map (.fn f)
 | .undef => some .undef
 | .any => some .any
 | .nil => some .nil
 | .t x => some (.t x)
 | .own sz es => some (.own sz es)
 | .cptr cs => some (.cptr cs)
def renL (ρ : Nat -> Option Nat) : List V -> Option (List V)
 | [] => some []
 | v :: vs => match v.ren ρ, renL ρ vs with
  | some x, some xs => some (x :: xs)
  | _, _ => none
end
def sigIn (sig : Sig) (ρ : Nat -> Option Nat) : List Nat -> Option Sig
 | [] => some []
 | id :: r => match sig[id]?, sigIn sig ρ r with
  | some (some cs), some s => (renL ρ cs).map fun cs => some cs :: s
  | _, _ => none
def sigBack (ρ : Nat -> Option Nat) : Sig -> List Nat -> Sig -> Option Sig
 | sig, [], _ => some sig
 | sig, id :: r, some cs :: s => match renL ρ cs with
  | some cs => sigBack ρ (sig.set id (some cs)) r s
  | none => none
 | _, _ :: _, _ => none
abbrev CallF := FuncId -> List V -> Sig -> Option (V × Sig)
def evCall (inner : CallF) (f : FuncId) (vs : List V) (sig : Sig) : Option (V × Sig × List Nat) :=
 let roots := close sig 4 (dedup (idsL vs))
 if (roots.flatMap (idsOf sig)).all roots.contains && nodupB roots then
  let there := fun id => roots.idxOf? id
  let back := fun k => roots[k]?
  match renL there vs, sigIn sig there roots with
  | some vs1, some sig1 =>
   (match inner f vs1 sig1 with
    | some (v, sig2) =>
     (match v.ren back, sigBack back sig roots sig2 with
      | some v1, some sig3 => some (v1, sig3, roots)
      | _, _ => none)
    | none => none)
  | _, _ => none
 else none
structure R where
 env : Env
 sig : Sig
 tl : List (Option (List Nat))
 ll : List (Option Nat)
def isAlloc (o : Oper) : Bool := match o.op with | .alloc _ | .box .. => true | _ => false
def boxNo (ops : List Oper) (i : Nat) : Nat := ((ops.take i).filter isAlloc).length
def wantedV (ops : List Oper) (e : Env) (o : Oper) : Option Bool :=
 match o.guard with
 | none => some true
 | some (j, want) =>
  match (ops[j]?).bind (·.dst) with
  | some d => (match e[d]? with
   | some (.t (.sc (.bool b))) => some (b == want)
   | some .undef => some false
   | _ => none)
  | none => some false
def bytesOk (P : Program) (t : TypeId) (n : Nat) : Bool := (tyBytes P t).any (fun b => b <= 1024) && decide (n <= 1073741824)
def step (P : Program) (call : CallF) (ops : List Oper) (base i : Nat) (r : R) : Option R :=
 match ops[i]? with
 | none => some r
 | some o =>
  match wantedV ops r.env o with
  | none => none
  | some false => some { r with env := r.env.put o.dst .undef }
  | some true =>
   match o.op with
   | .alloc t =>
    (match (tyZero P t).bind (fun z => cellsOf z.cells.toList), r.tl[i]? with
     | some cs, some none => let id := base + boxNo ops i
                    some { r with env := r.env.put o.dst (.ptr id 0), sig := r.sig.set id (some cs), tl := r.tl.set i (some [id]) }
     | _, _ => none)
   | .box t x =>
    (match rd r.env x, tySize P t, r.tl[i]? with
     | some v, some n, some none => if v.cells.length = n /\ v.cells.all V.one then
                    let id := base + boxNo ops i
                    some { r with env := r.env.put o.dst (.ptr id 0), sig := r.sig.set id (some (v.cells.map V.plain)), tl := r.tl.set i (some [id]) } else none
     | _, _, _ => none)
   | .assign x =>
    (match handOn P true ops base i r.env r.sig r.tl x with
     | some (v, e, sig) => some { r with env := e.put o.dst v, sig := sig }
     | none => none)
   | .store t a x =>
    (match (rd r.env a).bind V.asPtr, handOn P true ops base i r.env r.sig r.tl x, tySize P t with
     | some (id, off), some (v, e, sig), some n =>
      (match sig[id]? with
       | some (some cs) => if v.cells.length = n /\ v.cells.all V.one /\ off + n <= cs.length then
         some { r with env := e.put o.dst .undef, sig := sig.set id (some (setCells cs off v.cells)), tl := r.tl.set i (some [id]) } else none
       | _ => none)
     | _, _, _ => none)
   | .call c =>
    (match c.callee with
     | .builtin .append =>
      (match c.args.toList, c.argTypes.toList with
       | [x, y], [tx, ty] =>
        (match locOf P ops base i r.env.at r.sig r.tl x, (rd r.env y).bind V.list, tyElem P tx with
         | some (l, sz, es), some ys, some el =>
          (match tySize P el with
           | some n => if (sz = n \/ sz = 0) /\ 0 < n /\ bytesOk P el (es.length + ys.length) /\ ys.all (fun z => z.cells.length == n) /\ tx = ty /\ (tyZero P el).any (fun z => z.cells.size == n) then
             let q := consume r.env r.sig l es
             some { r with env := Env.put q.1 o.dst (.own n (es ++ ys)), sig := q.2 } else none
           | none => none)
         | _, _, _ => none)
       | _, _ => none)
     | .value f =>
      (match rd r.env f, handAll P ops base i r.env r.sig r.tl c.args.toList with
       | some (.fn g caps), some (vs, e, sig) =>
        (match evCall call g (vs ++ caps) sig with
         | some (v, sig1, roots) => some { r with env := e.put o.dst v, sig := sig1, tl := r.tl.set i (some roots) }
         | none => none)
       | _, _ => none)
     | .builtin _ =>
      (match evN P (rd r.env) r.sig o with
       | some (v, ld) => some { r with env := r.env.put o.dst v, ll := r.ll.set i ld }
       | none => none)
     | _ => none)
   | _ =>
    (match evN P (rd r.env) r.sig o with
     | some (v, ld) => some { r with env := r.env.put o.dst v, ll := r.ll.set i ld }
     | none => none)
def steps (P : Program) (call : CallF) (ops : List Oper) (base : Nat) : List Nat -> R -> Option R
 | [], r => some r
 | i :: is, r => match step P call ops base i r with
  | some r1 => steps P call ops base is r1
  | none => none
def apartOk (ops : Array Oper) (r : R) : Bool :=
 let b := Region.before ops
 let ord := fun (i j : Nat) => (b.getD i 0).testBit j || (b.getD j 0).testBit i
 ((r.ll.zipIdx).all fun (l, i) => match l with
  | none => true
  | some id => (r.tl.zipIdx).all fun (t, j) => match t with
   | none => true
   | some ids => !ids.contains id || ord i j) &&
 ((r.tl.zipIdx).all fun (t, j) => match t, (ops[j]?).map isAlloc with
  | some ids, some true => (r.tl.zipIdx).all fun (t', i) => i == j || (match t' with
   | none => true
   | some ids' => ids.all (fun id => !ids'.contains id) || ord i j)
  | _, _ => true)
def evRegion (P : Program) (call : CallF) (ops : Array Oper) (draw : Bool) (e : Env) (sig : Sig) : Option (Env × Sig) :=
 let n := ops.size
 let l := ops.toList
 match steps P call l sig.length (List.range n) { env := e, sig := sig ++ List.replicate (boxNo l n) none, tl := List.replicate n none, ll := List.replicate n none } with
 | some r => if draw && !apartOk ops r then none else some (r.env, r.sig)
 | none => none
inductive Ex where
 | normal
 | exit (id : Nat)
 | goto (l : Nat)
 | ret
 deriving Inhabited
def evCode (P : Program) (call : CallF) : Nat -> Code -> Env -> Sig -> Option (Ex × Env × Sig)
 | 0, _, _, _ => none
 | n + 1, c, e, sig =>
  match c with
  | .skip => some (.normal, e, sig)
  | .label _ => some (.normal, e, sig)
  | .ret => some (.ret, e, sig)
  | .exit id => some (.exit id, e, sig)
  | .goto l => some (.goto l, e, sig)
  | .region _ ops draw => (evRegion P call ops draw e sig).map fun r => (.normal, r.1, r.2)
  | .seq a b =>
   (match evCode P call n a e sig with
    | some (.normal, e1, sig1) => evCode P call n b e1 sig1
    | r => r)
  | .cond x a b =>
   (match rd e x with
    | some (.t (.sc (.bool true))) => evCode P call n a e sig
    | some (.t (.sc (.bool false))) => evCode P call n b e sig
    | _ => none)
  | .block id a =>
   (match evCode P call n a e sig with
    | some (.exit k, e1, sig1) => if k = id then some (.normal, e1, sig1) else some (.exit k, e1, sig1)
    | r => r)
  | .loop a =>
   (match evCode P call n a e sig with
    | some (.normal, e1, sig1) => evCode P call n (.loop a) e1 sig1
    | r => r)
  | .scope a => evScope P call n a a e sig
  | _ => none
where
 evScope (P : Program) (call : CallF) : Nat -> Code -> Code -> Env -> Sig -> Option (Ex × Env × Sig)
 | 0, _, _, _, _ => none
 | n + 1, a, c, e, sig =>
  (match evCode P call n c e sig with
   | some (.goto l, e1, sig1) =>
    (match findLabel a l with
     | some rest => evScope P call n a rest e1 sig1
     | none => some (.goto l, e1, sig1))
   | r => r)
def resV (P : Program) (e : Env) (sig : Sig) : ResultVar -> Option V
 | .tmp t => some (e.at t)
 | .cell a t =>
  match (e.at a).plain, tyAgg P t, tySize P t with
  | .ptr id off, some ag, some n => (match sig[id]? with
   | some (some cs) => partV ag n off (cs.map V.plain)
   | _ => none)
  | _, _, _ => none
def resAll (P : Program) (e : Env) (sig : Sig) : List ResultVar -> Option (List V)
 | [] => some []
 | x :: r => match resV P e sig x, resAll P e sig r with
  | some v, some vs => some (v :: vs)
  | _, _ => none
def Ex.ends : Ex -> Bool
 | .normal | .ret => true
 | _ => false
def evFunc (P : Program) : Nat -> CallF
 | 0, _, _, _ => none
 | n + 1, f, vs, sig =>
  match P.funcs[f]? with
  | none => none
  | some fn => match fn.body with
   | none => none
   | some c =>
    (match evCode P (evFunc P n) n c (vs ++ List.replicate (fn.ntmps - vs.length) .undef) sig with
     | some (ex, e, sig1) =>
      if ex.ends then
       (match resAll P e sig1 fn.results.toList with
        | some [v] => some (v, sig1)
        | some vs => some (.tup (vs.map V.plain), sig1)
        | none => none)
      else none
     | none => none)
end Go.Eng
