/- The engine: code at symbolic values, in continuation style: what it comes to, as a Lean function. Nothing is proved here. -/
import Derived.Test.YtimkclpogbfciaaDoorEngDefs
set_option linter.unusedVariables false
namespace Go.Eng
def look {α : Type} : List (Nat × α) -> Nat -> Option α
 | [], _ => none
 | (d, v) :: r, k => bif Nat.beq d k then some v else look r k
abbrev SEnv := List (Nat × V)
def SEnv.at (E : SEnv) (k : Nat) : V := match look E k with
 | some v => v
 | none => .any
def SEnv.env (n : Nat) (E : SEnv) : Env := (List.range n).map E.at
abbrev Chain := List (Nat × Bool)
structure X where
 env : SEnv
 ch : List (Nat × Chain)
 sig : Sig
 tl : List (Option (List Nat))
 gl : List (Option (List Nat))
 ll : List (Option Nat)
def X.chain (x : X) (d : Nat) : Chain := (look x.ch d).getD []
def truthOf : V -> Bool
 | .t (.sc (.bool b)) => b
 | _ => false
def isTruth : V -> Bool
 | .t (.sc (.bool _)) => true
 | _ => false
def lit (w b : Bool) : Bool := bif w then b else !b
def chainB (f : Nat -> V) : Chain -> Bool
 | [] => true
 | (s, w) :: r => match r with
  | [] => lit w (truthOf (f s))
  | _ => chainB f r && lit w (truthOf (f s))
def inChain (c : Chain) (p : Nat × Bool) : Bool := c.any fun q => Nat.beq q.1 p.1 && (q.2 == p.2)
def within (a c : Chain) : Bool := a.all (inChain c)
def guardX (ops : List Oper) (n : Nat) (x : X) (o : Oper) : Option Chain :=
 match o.guard with
 | none => some []
 | some (j, want) =>
  match (ops[j]?).bind (·.dst) with
  | some d => if d < n /\ isTruth (x.env.at d) then some ((d, want) :: x.chain d) else none
  | none => none
def opndOk (n : Nat) (x : X) (c : Chain) : Operand -> Bool
 | .tmp d => decide (d < n) && (look x.env d).isSome && within (x.chain d) c
 | _ => true
def opndsOk (n : Nat) (x : X) (c : Chain) (o : Oper) : Bool :=
 match o.op with
 | .pick (.tmp d) a b => opndOk n x c (.tmp d) && opndOk n x ((d, true) :: c) a && opndOk n x ((d, false) :: c) b
 | _ => o.op.operands.toList.all (opndOk n x c)
def dstOk (n : Nat) (x : X) (c : Chain) : Option Nat -> Bool
 | none => true
 | some d => decide (d < n) && c.all (fun p => !Nat.beq p.1 d) && x.ch.all fun q => q.2.all fun p => !Nat.beq p.1 d
def SEnv.put (E : SEnv) : Option Nat -> V -> SEnv
 | none, _ => E
 | some d, v => (d, v) :: E
def X.put (x : X) (dst : Option Nat) (v : V) (c : Chain) : X :=
 { x with env := x.env.put dst v, ch := match dst with | none => x.ch | some d => (d, c) :: x.ch }
inductive CK where
 | int (k : IntKind)
 | bool
 | str
 | cplx (k : FloatKind)
 | list
mutual
def shapeOf (P : Program) : Nat -> TypeId -> Option (List CK)
 | 0, _ => none
 | n + 1, t =>
  match P.underlying t with
  | some (.int k) => some [.int k]
  | some .bool => some [.bool]
  | some .string => some [.str]
  | some (.complex k) => some [.cplx k]
  | some (.slice _) => some [.list]
  | some (.struct fs) => shapesOf P n (fs.toList.map (·.type))
  | some (.array m e) => shapesOf P n (List.replicate m e)
  | _ => none
def shapesOf (P : Program) : Nat -> List TypeId -> Option (List CK)
 | 0, _ => none
 | _ + 1, [] => some []
 | n + 1, t :: ts => match shapeOf P n t, shapesOf P n ts with
  | some a, some b => some (a ++ b)
  | _, _ => none
end
def T.cell (y : T) (i : Nat) : T := y.cells.getD i default
def T.int : T -> Int
 | .sc (.int _ a) => a
 | _ => 0
def T.bool : T -> Bool
 | .sc (.bool b) => b
 | _ => false
def T.str : T -> ByteArray
 | .sc (.string s) => s
 | _ => default
def T.re : T -> Nat
 | .sc (.complex _ a _) => a
 | _ => 0
def T.im : T -> Nat
 | .sc (.complex _ _ b) => b
 | _ => 0
def T.lst : T -> List T
 | .list es => es
 | _ => []
def fitsCell : CK -> T -> Bool
 | .int k, .sc (.int k' _) => decide (k' = k)
 | .bool, .sc (.bool _) => true
 | .str, .sc (.string _) => true
 | .cplx k, .sc (.complex k' _ _) => decide (k' = k)
 | .list, .list _ => true
 | _, _ => false
def fitsL : List CK -> List T -> Bool
 | [], [] => true
 | c :: cs, t :: ts => fitsCell c t && fitsL cs ts
 | _, _ => false
def fits (sh : List CK) (y : T) : Bool := fitsL sh y.cells
def asCell : CK -> T -> T
 | .int k, t => .sc (.int k t.int)
 | .bool, t => .sc (.bool t.bool)
 | .str, t => .sc (.string t.str)
 | .cplx k, t => .sc (.complex k t.re t.im)
 | .list, t => .list t.lst
def asCells : List CK -> Nat -> T -> List T
 | [], _, _ => []
 | c :: cs, i, y => asCell c (y.cell i) :: asCells cs (i + 1) y
def idx (c : Bool) (sh : List CK) (es : List T) (k : Int) : Option T :=
 bif c then (bif decide (0 <= k) then (match es[k.toNat]? with
  | some y => bif fits sh y then some y else none
  | none => none) else none) else some default
def idx1 (c : Bool) (k0 : CK) (es : List T) (k : Int) : Option T :=
 bif c then (bif decide (0 <= k) then (match es[k.toNat]? with
  | some y => bif fitsCell k0 y then some y else none
  | none => none) else none) else some default
def tsOf : List V -> Option (List T)
 | [] => some []
 | .t x :: r => (tsOf r).map (x :: ·)
 | _ => none
def bidx (c : Bool) (s : ByteArray) (k : Int) : Option UInt8 :=
 bif c then (bif decide (0 <= k) then s[k.toNat]? else none) else some 0
def cplxEq (k : FloatKind) (a b c d : Nat) : Bool := (k.format.order a c == some .eq) && (k.format.order b d == some .eq)
def must {R : Type} (c φ : Bool) (r : Option R) : Option R := bif c && !φ then none else r
def mergeV (c : Bool) : V -> V -> Option V
 | .t (.sc (.bool a)), .t (.sc (.bool b)) => some (.t (.sc (.bool (bif c then a else b))))
 | .t (.sc (.int k a)), .t (.sc (.int k' b)) => if k = k' then some (.t (.sc (.int k (bif c then a else b)))) else none
 | .t (.sc (.string a)), .t (.sc (.string b)) => some (.t (.sc (.string (bif c then a else b))))
 | .t (.list a), .t (.list b) => some (.t (.list (bif c then a else b)))
 | _, _ => none
def freshG (gl : List (Option (List Nat))) (i : Nat) : Bool := match gl[i]? with
 | some none => true
 | _ => false
def mergeC (c : Bool) : V -> V -> Option V
 | .own m a, .own m' b => if m = m' then some (.own m (bif c then a else b)) else none
 | .t (.sc (.complex k a a')), .t (.sc (.complex k' b b')) => if k = k' then some (.t (.sc (.complex k (bif c then a else b) (bif c then a' else b')))) else none
 | .ptr a o, .ptr b p => if a = b /\ o = p then some (.ptr a o) else none
 | a, b => mergeV c a b
def mergeCells (c : Bool) : List V -> List V -> Option (List V)
 | [], [] => some []
 | a :: as, b :: bs => match mergeC c a b, mergeCells c as bs with
  | some x, some xs => some (x :: xs)
  | _, _ => none
 | _, _ => none
def mergeSig (c : Bool) (sig3 : Sig) : List Nat -> Sig -> Option Sig
 | [], s => some s
 | id :: r, s => match sig3[id]?, s[id]? with
  | some (some a), some (some b) => (match mergeCells c a b with
   | some m => mergeSig c sig3 r (s.set id (some m))
   | none => none)
  | _, _ => none
def joinLog : List (Option (List Nat)) -> List (Option (List Nat)) -> List (Option (List Nat))
 | a :: as, b :: bs => (match b with
  | some ids => some ids
  | none => a) :: joinLog as bs
 | as, _ => as
def homeOk (gl : List (Option (List Nat))) : Option (Loc × Nat × List T) -> Bool
 | some (.box id _, _, _) => gl.all fun x => match x with
  | some ids => !ids.contains id
  | none => true
 | _ => true
def sized (sz : Nat) (es : List T) : Bool := es.all fun y => y.cells.length == sz
def flo (c : Bool) (r : Option Nat) : Option Nat := bif c then r else some 0
def flMax (k : FloatKind) (x y : Nat) : Option Nat := match k.format.order x y with
 | none => none
 | some .lt => some y
 | some .gt => some x
 | some .eq => some (bif (k.decode x).neg then y else x)
def flMin (k : FloatKind) (x y : Nat) : Option Nat := match k.format.order x y with
 | none => none
 | some .lt => some x
 | some .gt => some y
 | some .eq => some (bif (k.decode x).neg then x else y)
def floInt (c : Bool) (k : FloatKind) (a : Nat) (d : IntKind) : Option Int := bif c then (match (k.decode a).toInt .zero with
 | some n => bif decide (d.min <= n) && decide (n <= d.max) then some n else none
 | none => none) else some 0
def bytesIf (c : Bool) (es : List T) : Option (List UInt8) := bif c then bytesL es else some []
def cmpA (P : Program) (c : Bool) (b : BinOp) (t : TypeId) (l m : List Value) : Option Bool :=
 bif c then (match runPure P (do eqGuard b t (.tmp 0) (.tmp 0) (.agg l.toArray) (.agg m.toArray); binOp b t (.agg l.toArray) (.agg m.toArray)) with
  | some (.bool q) => some q
  | _ => none) else some false
def colOf (ts : List T) (off st m : Nat) : List T := (List.range m).map fun i => ts.getD (i * st + off) default
def rowsOf (ts : List T) (off st m sz : Nat) : List T := (List.range m).map fun i => T.agg ((ts.drop (i * st + off)).take sz)
section
variable {R : Type}
def directM (P : Program) (f : Nat -> V) (sig : Sig) (o : Oper) (K : V -> Option Nat -> Option R) : Option R :=
 match evN P (rdF f) sig o with
 | some (v, ld) => K v ld
 | none => none
def quietM (P : Program) (f : Nat -> V) (sig : Sig) (c : Chain) (o : Oper) (K : V -> Option Nat -> Option R) : Option R :=
 match o.op with
 | .indexAddr t xo io =>
  (match rdF f xo, rdF f io with
   | some (.t (.list es)), some (.t (.sc (.int _ k))) =>
    (match tyElem P t with
     | some el => (match tySize P el, shapeOf P 40 el with
      | some sz, some sh => if sh.length = sz then Option.bind (idx (chainB f c) sh es k) fun y => K (.cptr (asCells sh 0 y)) none else none
      | _, _ => none)
     | none => none)
   | some (.ptr id off), some (.t (.sc (.int _ k))) =>
    (match isConst io with
     | true => directM P f sig o K
     | false => (match tyArr P t with
      | some (m, el) => (match tySize P el with
       | some sz => must (chainB f c) (decide (0 <= k) && decide (k < m)) (K (.aptr id off sz m k) none)
       | none => none)
      | none => none))
   | _, _ => directM P f sig o K)
 | .load t x =>
  (match rdF f x with
   | some (.aptr id off st m k) =>
    (match sig[id]?, tyAgg P t, tySize P t, shapeOf P 40 t with
     | some (some cs), some false, some 1, some [k0] => (match tsOf (cs.map V.plain) with
      | some ts => if (m - 1) * st + off < ts.length then Option.bind (idx1 (chainB f c) k0 (colOf ts off st m) k) fun y => K (.t (asCell k0 y)) (some id) else none
      | none => none)
     | some (some cs), some true, some sz, some sh => (match tsOf (cs.map V.plain) with
      | some ts => if (m - 1) * st + off + sz <= ts.length /\ sh.length = sz then Option.bind (idx (chainB f c) sh (rowsOf ts off st m sz) k) fun y => K (.agg ((asCells sh 0 y).map V.t)) (some id) else none
      | none => none)
     | _, _, _, _ => none)
   | _ => directM P f sig o K)
 | .binOp .quo t x y ty =>
  (match rdF f x, rdF f y with
   | some (.t (.sc (.int k a))), some (.t (.sc (.int k' b))) => if k = k' then must (chainB f c) (!decide (b = 0)) (K (.t (.sc (.int k (k.wrap (a.tdiv b))))) none) else none
   | _, _ => none)
 | .binOp .rem t x y ty =>
  (match rdF f x, rdF f y with
   | some (.t (.sc (.int k a))), some (.t (.sc (.int k' b))) => if k = k' then must (chainB f c) (!decide (b = 0)) (K (.t (.sc (.int k (a.tmod b)))) none) else none
   | _, _ => none)
 | .binOp .add t x y ty =>
  (match rdF f x, rdF f y with
   | some (.t (.sc (.string a))), some (.t (.sc (.string b))) => must (chainB f c) (decide (((a.size + b.size : Nat) : Int) <= IntKind.i64.max)) (K (.t (.sc (.string (a ++ b)))) none)
   | some (.t (.sc (.float k a))), some (.t (.sc (.float k' b))) => if k = k' then Option.bind (flo (chainB f c) (k.format.add a b)) fun r => K (.t (.sc (.float k r))) none else none
   | some (.t (.sc (.complex k a a'))), some (.t (.sc (.complex k' b b'))) => if k = k' then Option.bind (flo (chainB f c) (k.format.add a b)) fun r => Option.bind (flo (chainB f c) (k.format.add a' b')) fun r' => K (.t (.sc (.complex k r r'))) none else none
   | _, _ => directM P f sig o K)
 | .binOp .sub t x y ty =>
  (match rdF f x, rdF f y with
   | some (.t (.sc (.float k a))), some (.t (.sc (.float k' b))) => if k = k' then Option.bind (flo (chainB f c) (k.format.sub a b)) fun r => K (.t (.sc (.float k r))) none else none
   | some (.t (.sc (.complex k a a'))), some (.t (.sc (.complex k' b b'))) => if k = k' then Option.bind (flo (chainB f c) (k.format.sub a b)) fun r => Option.bind (flo (chainB f c) (k.format.sub a' b')) fun r' => K (.t (.sc (.complex k r r'))) none else none
   | _, _ => directM P f sig o K)
 | .binOp .eql t x y ty =>
  (match rdF f x, rdF f y with
   | some (.agg vs), some (.agg us) => (match flatL vs, flatL us with
    | some l, some m => Option.bind (cmpA P (chainB f c) .eql t l m) fun q => K (.t (.sc (.bool q))) none
    | _, _ => none)
   | _, _ => directM P f sig o K)
 | .binOp .neq t x y ty =>
  (match rdF f x, rdF f y with
   | some (.agg vs), some (.agg us) => (match flatL vs, flatL us with
    | some l, some m => Option.bind (cmpA P (chainB f c) .neq t l m) fun q => K (.t (.sc (.bool q))) none
    | _, _ => none)
   | _, _ => directM P f sig o K)
 | .convert src dst x =>
  (match rdF f x with
   | some (.t (.sc (.float k a))) =>
    (match P.underlying src, P.underlying dst with
     | some _, some (.int d) => Option.bind (floInt (chainB f c) k a d) fun i => K (.t (.sc (.int d i))) none
     | _, _ => directM P f sig o K)
   | some (.t (.list es)) =>
    (match tyElem P src, P.underlying dst with
     | some el, some .string => (match P.underlying el with
      | some (.int .u8) => Option.bind (bytesIf (chainB f c) es) fun l => K (.t (.sc (.string ⟨l.toArray⟩))) none
      | _ => none)
     | _, _ => none)
   | _ => directM P f sig o K)
 | .call cc =>
  (match cc.callee, cc.args.toList with
   | .builtin .max, [x, y] =>
    (match rdF f x, rdF f y with
     | some (.t (.sc (.float k a))), some (.t (.sc (.float k' b))) => if k = k' then Option.bind (flo (chainB f c) (flMax k a b)) fun r => K (.t (.sc (.float k r))) none else none
     | _, _ => directM P f sig o K)
   | .builtin .min, [x, y] =>
    (match rdF f x, rdF f y with
     | some (.t (.sc (.float k a))), some (.t (.sc (.float k' b))) => if k = k' then Option.bind (flo (chainB f c) (flMin k a b)) fun r => K (.t (.sc (.float k r))) none else none
     | _, _ => directM P f sig o K)
   | _, _ => directM P f sig o K)
 | .index t x i =>
  (match rdF f x, rdF f i with
   | some (.t (.sc (.string s))), some (.t (.sc (.int _ k))) =>
    (match P.underlying t with
     | some .string => Option.bind (bidx (chainB f c) s k) fun b => K (.t (.sc (.int .u8 b.toNat))) none
     | _ => none)
   | some (.agg vs), some (.t (.sc (.int _ k))) =>
    (match tyArr P t with
     | some (m, el) => (match tyAgg P el, tySize P el, shapeOf P 40 el, tsOf vs with
      | some false, some 1, some [k0], some es => if es.length = m then Option.bind (idx1 (chainB f c) k0 es k) fun y => K (.t (asCell k0 y)) none else none
      | _, _, _, _ => none)
     | none => none)
   | _, _ => directM P f sig o K)
 | .slice t x lo hi mx =>
  (match rdF f x with
   | some (.t (.list es)) =>
    (match (tyElem P t).bind (tySize P), intOp (rdF f) lo, intOp (rdF f) hi, intOp (rdF f) mx with
     | some sz, some l, some h, some m =>
      if 0 < sz then
       must (chainB f c) (decide (0 <= l.getD 0) && decide (l.getD 0 <= h.getD es.length) && decide (h.getD es.length <= es.length) && sized sz es)
       (match m with
        | none => K (.t (.list ((es.take (h.getD es.length).toNat).drop (l.getD 0).toNat))) none
        | some m' => if h.isSome then must (chainB f c) (decide (m' = h.getD es.length)) (K (.own sz ((es.take (h.getD es.length).toNat).drop (l.getD 0).toNat)) none) else none)
      else none
     | _, _, _, _ => none)
   | some (.t (.sc (.string s))) =>
    (match P.underlying t, intOp (rdF f) lo, intOp (rdF f) hi, mx with
     | some .string, some l, some h, none => must (chainB f c) (decide (0 <= l.getD 0) && decide (l.getD 0 <= h.getD s.size) && decide (h.getD s.size <= s.size)) (K (.t (.sc (.string (s.extract (l.getD 0).toNat (h.getD s.size).toNat)))) none)
     | _, _, _, _ => none)
   | _ => directM P f sig o K)
 | .makeSlice t l cp =>
  (match tyElem P t, rdF f l, rdF f cp with
   | some el, some (.t (.sc (.int .i64 n))), some (.t (.sc (.int .i64 m))) =>
    (match tySize P el, tyBytes P el, tyZero P el with
     | some sz, some by_, some z =>
      (match (cellsOf z.cells.toList).bind allT with
       | some zs => if by_ <= 1024 /\ 0 < sz /\ zs.length = sz then must (chainB f c) (decide (n = m) && decide (0 <= n) && decide (n <= 1073741824)) (K (.own sz (List.replicate n.toNat (elemOfCells zs))) none) else none
       | none => none)
     | _, _, _ => none)
   | _, _, _ => none)
 | .pick cd a b =>
  (match rdF f cd with
   | some (.t (.sc (.bool q))) =>
    (match rdF f a, rdF f b with
     | some va, some vb => (match mergeV q va vb with
      | some v => K v none
      | none => none)
     | _, _ => none)
   | _ => none)
 | _ => directM P f sig o K
def consumeX (E : SEnv) (sig : Sig) : Loc -> List T -> SEnv × Sig
 | .slot s, es => (E.put (some s) (.t (.list es)), sig)
 | .box id off, es => (E, sig.set id ((sig.getD id none).map fun cs => cs.set off (.t (.list es))))
 | _, _ => (E, sig)
def handOnX (P : Program) (all : Bool) (ops : List Oper) (base i : Nat) (E : SEnv) (sig : Sig) (tl gl : List (Option (List Nat))) (x : Operand) : Option (V × SEnv × Sig × Bool) :=
 if homeOk gl (locOf P ops base i E.at sig tl x) then
 match locOf P ops base i E.at sig tl x with
 | some (.nil, _, _) => some (.nil, E, sig, false)
 | some (l, sz, es) => if all || gives ops x l then (let r := consumeX E sig l es; some (.own sz es, r.1, r.2, true)) else (rdF E.at x).map (·, E, sig, false)
 | none => (rdF E.at x).map (·, E, sig, false)
 else none
def handAllX (P : Program) (ops : List Oper) (base i : Nat) (E : SEnv) (sig : Sig) (tl gl : List (Option (List Nat))) : List Operand -> Option (List V × SEnv × Sig × Bool)
 | [] => some ([], E, sig, false)
 | x :: r => match handOnX P false ops base i E sig tl gl x with
  | some (v, e1, sig1, b1) => (match handAllX P ops base i e1 sig1 tl gl r with
   | some (vs, e2, sig2, b2) => some (v :: vs, e2, sig2, b1 || b2)
   | none => none)
  | none => none
def srcOk (ops : List Oper) (n i : Nat) (x : X) (c : Chain) : Operand -> Bool
 | .tmp d => (match writer ops d i with
  | some (_, o) => (match o.op with
   | .move (.tmp s) => opndOk n x c (.tmp s)
   | .load _ ad => opndOk n x c ad
   | _ => true)
  | none => true)
 | _ => true
structure CallM where
 α : Type
 m : Option α
 dflt : α
 enc : α -> V × Sig
structure Spec where
 call : FuncId -> List V -> Sig -> Option CallM
 loop : (R : Type) -> Nat -> SEnv -> Sig -> (Ex -> SEnv -> Sig -> Option R) -> Option R
def callX (spec : Spec) (f : FuncId) (vs : List V) (sig : Sig) (c : Bool) (K : V -> Sig -> List Nat -> Option R) : Option R :=
 let roots := close sig 4 (dedup (idsL vs))
 if (roots.flatMap (idsOf sig)).all roots.contains && nodupB roots then
  match renL (fun id => roots.idxOf? id) vs, sigIn sig (fun id => roots.idxOf? id) roots with
  | some vs1, some sig1 =>
   (match spec.call f vs1 sig1 with
    | some cm => Option.bind (bif c then cm.m else some cm.dflt) fun x =>
     (match (cm.enc x).1.ren (fun k => roots[k]?), sigBack (fun k => roots[k]?) sig roots (cm.enc x).2 with
      | some v1, some sig3 => K v1 sig3 roots
      | _, _ => none)
    | none => none)
  | _, _ => none
 else none
def effectX (P : Program) (spec : Spec) (ops : List Oper) (base n i : Nat) (x : X) (c : Chain) (o : Oper) (K : X -> Option R) : Option R :=
 if o.op.operands.toList.all (srcOk ops n i x c) then
  match o.op with
  | .assign xo =>
   (match c, handOnX P true ops base i x.env x.sig x.tl x.gl xo with
    | [], some (v, E, sig, _) => K ({ x with env := E, sig := sig }.put o.dst v [])
    | _, _ => none)
  | .store t a xo =>
   (match c, (rdF x.env.at a).bind V.asPtr, handOnX P true ops base i x.env x.sig x.tl x.gl xo, tySize P t with
    | [], some (id, off), some (v, E, sig, _), some m =>
     (match sig[id]? with
      | some (some cs) => if v.cells.length = m /\ v.cells.all V.one /\ off + m <= cs.length then
        K ({ x with env := E, sig := sig.set id (some (setCells cs off v.cells)), tl := x.tl.set i (some [id]) }.put o.dst .undef []) else none
      | _ => none)
    | _, _, _, _ => none)
  | .call cc =>
   (match cc.callee with
    | .builtin .append =>
     (match c, cc.args.toList, cc.argTypes.toList with
      | [], [xo, yo], [tx, ty] =>
       (match locOf P ops base i x.env.at x.sig x.tl xo, (rdF x.env.at yo).bind V.list, tyElem P tx with
        | some (l, sz, es), some ys, some el =>
         (match tySize P el with
          | some m => if homeOk x.gl (some (l, sz, es)) = true /\ 0 < m /\ tx = ty /\ (tyBytes P el).any (fun b => b <= 1024) /\ (tyZero P el).any (fun z => z.cells.size == m) then
            must true ((Nat.beq sz m || Nat.beq sz 0) && (decide (es.length + ys.length <= 1073741824) && sized m ys))
            (let q := consumeX x.env x.sig l es
             K ({ x with env := q.1, sig := q.2 }.put o.dst (.own m (es ++ ys)) [])) else none
          | none => none)
        | _, _, _ => none)
      | _, _, _ => none)
    | .builtin _ => none
    | .value fx =>
     (match rdF x.env.at fx, handAllX P ops base i x.env x.sig x.tl x.gl cc.args.toList with
      | some (.fn g caps), some (vs, E, sig, touched) =>
       callX spec g (vs ++ caps) sig (chainB x.env.at c) fun v sig1 roots =>
        match c with
        | [] => K ({ x with env := E, sig := sig1, tl := x.tl.set i (some roots) }.put o.dst v [])
        | _ :: _ => if touched then none else
         match mergeSig (chainB x.env.at c) sig1 roots x.sig with
         | some s => K ({ x with sig := s, gl := x.gl.set i (some roots) }.put o.dst v c)
         | none => none
      | _, _ => none)
    | _ => none)
  | _ => none
 else none
def allocX (P : Program) (ops : List Oper) (base i : Nat) (x : X) (c : Chain) (o : Oper) (K : X -> Option R) : Option R :=
 match c with
 | _ :: _ => none
 | [] =>
  match o.op with
  | .alloc t =>
   (match (tyZero P t).bind (fun z => cellsOf z.cells.toList), x.tl[i]? with
    | some cs, some none => let id := base + boxNo ops i
                K ({ x with sig := x.sig.set id (some cs), tl := x.tl.set i (some [id]) }.put o.dst (.ptr id 0) [])
    | _, _ => none)
  | .box t xo =>
   (match rdF x.env.at xo, tySize P t, x.tl[i]? with
    | some v, some m, some none => if v.cells.length = m /\ v.cells.all V.one then
                let id := base + boxNo ops i
                K ({ x with sig := x.sig.set id (some (v.cells.map V.plain)), tl := x.tl.set i (some [id]) }.put o.dst (.ptr id 0) []) else none
    | _, _, _ => none)
  | _ => none
def stepX (P : Program) (spec : Spec) (ops : List Oper) (base n i : Nat) (x : X) (K : X -> Option R) : Option R :=
 match ops[i]? with
 | none => none
 | some o =>
  match guardX ops n x o with
  | none => none
  | some c =>
   if opndsOk n x c o && dstOk n x c o.dst && freshG x.gl i then
    if isE o then effectX P spec ops base n i x c o K
    else if isAlloc o then allocX P ops base i x c o K
    else quietM P x.env.at x.sig c o fun v ld => K { x.put o.dst v c with ll := x.ll.set i ld }
   else none
def stepsX (P : Program) (spec : Spec) (ops : List Oper) (base n : Nat) : List Nat -> X -> (X -> Option R) -> Option R
 | [], x, K => K x
 | i :: is, x, K => stepX P spec ops base n i x fun x1 => stepsX P spec ops base n is x1 K
def V.soft : V -> V
 | .nil => .own 0 []
 | v => v
def Sig.soft (s : Sig) : Sig := s.map fun cs => cs.map fun l => l.map V.soft
def tidy (x : X) : List Nat -> List (Nat × V) -> List (Nat × V)
 | _, [] => []
 | seen, (d, v) :: r => if seen.any (Nat.beq d) then tidy x seen r else
  match x.chain d with
  | [] => (d, v.soft) :: tidy x (d :: seen) r
  | _ => tidy x (d :: seen) r
def regionX (P : Program) (spec : Spec) (n : Nat) (ops : Array Oper) (draw : Bool) (E : SEnv) (sig : Sig) (K : SEnv -> Sig -> Option R) : Option R :=
 let m := ops.size
 let l := ops.toList
 stepsX P spec l sig.length n (List.range m) { env := E, ch := [], sig := sig ++ List.replicate (boxNo l m) none, tl := List.replicate m none, gl := List.replicate m none, ll := List.replicate m none } fun x =>
  if draw && !apartOk ops { env := [], sig := x.sig, tl := joinLog x.tl x.gl, ll := x.ll } then none else K (tidy x [] x.env) x.sig.soft
def keyOf : Code -> Option Nat
 | .region id _ _ => some id
 | .seq a b => match keyOf a with
  | some k => some k
  | none => keyOf b
 | .cond _ a b => match keyOf a with
  | some k => some k
  | none => keyOf b
 | .block _ a => keyOf a
 | .loop a => keyOf a
 | .scope a => keyOf a
 | _ => none
def loopsOf : Code -> List Code
 | .seq a b => loopsOf a ++ loopsOf b
 | .cond _ a b => loopsOf a ++ loopsOf b
 | .block _ a => loopsOf a
 | .loop a => a :: loopsOf a
 | .scope a => loopsOf a
 | _ => []
def scopesOf : Code -> List Code
 | .seq a b => scopesOf a ++ scopesOf b
 | .cond _ a b => scopesOf a ++ scopesOf b
 | .block _ a => scopesOf a
 | .loop a => scopesOf a
 | .scope a => a :: scopesOf a
 | _ => []
def labelsOf : Code -> List Nat
 | .seq a b => labelsOf a ++ labelsOf b
 | .label l => [l]
 | _ => []
def jumpKey (l : Nat) : Nat := 1000000 + l
def mX (P : Program) (spec : Spec) (n : Nat) : Code -> SEnv -> Sig -> (Ex -> SEnv -> Sig -> Option R) -> Option R
 | .skip, E, sig, K => K .normal E sig
 | .label _, E, sig, K => K .normal E sig
 | .ret, E, sig, K => K .ret E sig
 | .exit id, E, sig, K => K (.exit id) E sig
 | .goto l, E, sig, K => K (.goto l) E sig
 | .region _ ops draw, E, sig, K => regionX P spec n ops draw E sig (K .normal)
 | .seq a b, E, sig, K => mX P spec n a E sig fun x E1 sig1 => match x with
   | .normal => mX P spec n b E1 sig1 K
   | x => K x E1 sig1
 | .cond x a b, E, sig, K =>
   (match x with
    | .tmp d => (match (look E d).map V.plain with
     | some (.t (.sc (.bool q))) => if d < n then (bif q then mX P spec n a E sig K else mX P spec n b E sig K) else none
     | _ => none)
    | .const (.bool q) => bif q then mX P spec n a E sig K else mX P spec n b E sig K
    | _ => none)
 | .block id a, E, sig, K => mX P spec n a E sig fun x E1 sig1 => match x with
   | .exit j => if j = id then K .normal E1 sig1 else K (.exit j) E1 sig1
   | x => K x E1 sig1
 | .loop a, E, sig, K => match keyOf a with
   | some k => spec.loop R k E sig K
   | none => none
 | .scope a, E, sig, K => mX P spec n a E sig fun x E1 sig1 => match x with
   | .goto l => (match findLabel a l with
    | some _ => spec.loop R (jumpKey l) E1 sig1 K
    | none => K (.goto l) E1 sig1)
   | x => K x E1 sig1
 | _, _, _, _ => none
end
end Go.Eng
