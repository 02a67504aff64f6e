/- The engine, part 18: what the evaluator does is one thing, whatever comes behind. -/
import Derived.Test.YtilbahgfjfcikaaDoorE17
set_option linter.unusedVariables false
set_option linter.unusedSimpArgs false
namespace Go.Proofs.YtilbahgfjfcikaaDoor.Eng
open Go
variable {β : Type} {P : Program} {σ : Nat → Option Ob} {C : Cfg}

theorem bif_bind {γ : Type} (c : Bool) (x : Option γ) (f : γ → Option β) : (bif c then x else none).bind f = bif c then x.bind f else none := by cases c <;> rfl

theorem bif_bind' {γ : Type} (c : Bool) (x : Option γ) (f : γ → Option β) : (bif c then none else x).bind f = bif c then none else x.bind f := by cases c <;> rfl

def cast1D (P : Program) (T : TypeId) (v : AV) : Option AV := cast1 P T v some
theorem cast1_lin (T : TypeId) (v : AV) (K : AV → Option β) : cast1 P T v K = (cast1D P T v).bind K := by
  unfold cast1D cast1
  (repeat' split) <;> simp [bif_bind]
def castPreD (P : Program) (ts : List TypeId) (cs : List AV) : Option (List AV) := castPre P ts cs some
theorem castPre_lin : ∀ {β : Type} (ts : List TypeId) (cs : List AV) (K : List AV → Option β), castPre P ts cs K = (castPreD P ts cs).bind K
  | _, [], _, K => by simp [castPreD, castPre]
  | _, _ :: _, [], K => by simp [castPreD, castPre]
  | _, t :: ts, c :: cs, K => by unfold castPreD castPre; simp [cast1_lin, castPre_lin ts cs, Option.bind_assoc]
def castAllD (P : Program) (ts : List TypeId) (cs : List AV) : Option (List AV) := castAll P ts cs some
theorem castAll_lin : ∀ {β : Type} (ts : List TypeId) (cs : List AV) (K : List AV → Option β), castAll P ts cs K = (castAllD P ts cs).bind K
  | _, [], [], K => by simp [castAllD, castAll]
  | _, [], _ :: _, K => by simp [castAllD, castAll]
  | _, _ :: _, [], K => by simp [castAllD, castAll]
  | _, t :: ts, c :: cs, K => by unfold castAllD castAll; simp [cast1_lin, castAll_lin ts cs, Option.bind_assoc]
def castTD (P : Program) (T : TypeId) (v : AV) : Option AV := castT P T v some
theorem castT_lin (T : TypeId) (v : AV) (K : AV → Option β) : castT P T v K = (castTD P T v).bind K := by
  unfold castTD castT
  cases isAggT P T <;> simp only [cond_true, cond_false]
  · rw [cast1_lin (K := K)]; rfl
  · split <;> simp [castAll_lin, Option.bind_assoc]
def loadTD (P : Program) (T : TypeId) (cs : List AV) : Option AV := loadT P T cs some
theorem loadT_lin (T : TypeId) (cs : List AV) (K : AV → Option β) : loadT P T cs K = (loadTD P T cs).bind K := by
  unfold loadTD loadT
  cases isAggT P T <;> simp only [cond_true, cond_false]
  · split <;> simp [cast1_lin, Option.bind_assoc]
  · simp [bif_bind, castPre_lin, Option.bind_assoc]

def castP1D (P : Program) (T : TypeId) (v : AV) : Option AV := castP1 P T v some
theorem castP1_lin (T : TypeId) (v : AV) (K : AV → Option β) : castP1 P T v K = (castP1D P T v).bind K := by
  unfold castP1D castP1 atBool atInt atStr atList
  (repeat' split) <;> simp [bif_bind]
theorem cellAt_bind {γ : Type} (cs : List AV) (off : Nat) (K : AV → Option γ) (f : γ → Option β) : (cellAt cs off K).bind f = cellAt cs off fun c => (K c).bind f := by
  unfold cellAt
  split <;> rfl
theorem atAgg_bind {γ : Type} (n : Nat) (v : AV) (K : List AV → Option γ) (f : γ → Option β) : (atAgg n v K).bind f = atAgg n v fun c => (K c).bind f := by
  unfold atAgg
  split <;> simp [bif_bind]
def castPreAtD (P : Program) (ts : List TypeId) (cs : List AV) (off : Nat) : Option (List AV) := castPreAt P ts cs off some
theorem castPreAt_lin : ∀ {β : Type} (ts : List TypeId) (cs : List AV) (off : Nat) (K : List AV → Option β), castPreAt P ts cs off K = (castPreAtD P ts cs off).bind K
  | _, [], _, _, K => by simp [castPreAtD, castPreAt]
  | _, t :: ts, cs, off, K => by unfold castPreAtD castPreAt; simp [castP1_lin, castPreAt_lin ts cs, Option.bind_assoc, cellAt_bind]
def castTPD (P : Program) (T : TypeId) (v : AV) : Option AV := castTP P T v some
theorem castTP_lin (T : TypeId) (v : AV) (K : AV → Option β) : castTP P T v K = (castTPD P T v).bind K := by
  unfold castTPD castTP
  cases isAggT P T <;> simp only [cond_true, cond_false]
  · rw [castP1_lin (K := K)]; rfl
  · simp [atAgg_bind, castPreAt_lin, Option.bind_assoc]
def loadTPD (P : Program) (T : TypeId) (cs : List AV) (off : Nat) : Option AV := loadTP P T cs off some
theorem loadTP_lin (T : TypeId) (cs : List AV) (off : Nat) (K : AV → Option β) : loadTP P T cs off K = (loadTPD P T cs off).bind K := by
  unfold loadTPD loadTP
  cases isAggT P T <;> simp only [cond_true, cond_false]
  · simp [cellAt_bind, castP1_lin]
  · simp [bif_bind, castPreAt_lin, Option.bind_assoc]

def frz1D (P : Program) (σ : Nat → Option Ob) (T : TypeId) (v : AV) : Option (AV × Upd) := frz1 P σ T v fun v u => some (v, u)
theorem frz1_lin (T : TypeId) (v : AV) (K : AV → Upd → Option β) : frz1 P σ T v K = (frz1D P σ T v).bind fun x => K x.1 x.2 := by
  unfold frz1D frz1
  (repeat' split) <;> simp
def frzCsD (P : Program) (σ : Nat → Option Ob) (ts : List TypeId) (cs : List AV) : Option (List AV × Upd) := frzCs P σ ts cs fun v u => some (v, u)
theorem frzCs_lin : ∀ {β : Type} (ts : List TypeId) (cs : List AV) (K : List AV → Upd → Option β), frzCs P σ ts cs K = (frzCsD P σ ts cs).bind fun x => K x.1 x.2
  | _, [], [], K => by simp [frzCsD, frzCs]
  | _, [], _ :: _, K => by simp [frzCsD, frzCs]
  | _, _ :: _, [], K => by simp [frzCsD, frzCs]
  | _, t :: ts, c :: cs, K => by unfold frzCsD frzCs; simp [frz1_lin, frzCs_lin ts cs, Option.bind_assoc]
def frzD (P : Program) (σ : Nat → Option Ob) (T : TypeId) (v : AV) : Option (AV × Upd) := frz P σ T v fun v u => some (v, u)
theorem frz_lin (T : TypeId) (v : AV) (K : AV → Upd → Option β) : frz P σ T v K = (frzD P σ T v).bind fun x => K x.1 x.2 := by
  unfold frzD frz
  cases isAggT P T <;> simp only [cond_true, cond_false]
  · rw [frz1_lin (K := K)]; rfl
  · split <;> simp [frzCs_lin, Option.bind_assoc]
def frzLD (P : Program) (σ : Nat → Option Ob) (ts : List TypeId) (cs : List AV) : Option (List AV × Upd) := frzL P σ ts cs fun v u => some (v, u)
theorem frzL_lin : ∀ {β : Type} (ts : List TypeId) (cs : List AV) (K : List AV → Upd → Option β), frzL P σ ts cs K = (frzLD P σ ts cs).bind fun x => K x.1 x.2
  | _, [], [], K => by simp [frzLD, frzL]
  | _, [], _ :: _, K => by simp [frzLD, frzL]
  | _, _ :: _, [], K => by simp [frzLD, frzL]
  | _, t :: ts, c :: cs, K => by unfold frzLD frzL; simp [frz_lin, frzL_lin ts cs, Option.bind_assoc]

def intOpD (op : BinOp) (k : IntKind) (a b : Int) : Option AV := intOp op k a b some
theorem intOp_lin (op : BinOp) (k : IntKind) (a b : Int) (K : AV → Option β) : intOp op k a b K = (intOpD op k a b).bind K := by
  unfold intOpD intOp
  split <;> first | rfl | (split <;> first | rfl | simp_all) | (cases decide (b = 0) <;> rfl)
def strOpD (op : BinOp) (a b : ByteArray) : Option AV := strOp op a b some
theorem strOp_lin (op : BinOp) (a b : ByteArray) (K : AV → Option β) : strOp op a b K = (strOpD op a b).bind K := by
  unfold strOpD strOp
  split <;> first | rfl | (simp only [bif_bind]; rfl)
def bopD (P : Program) (op : BinOp) (T : TypeId) (xo yo : Operand) (x y : AV) : Option AV := bop P op T xo yo x y some
theorem bop_lin (op : BinOp) (T : TypeId) (xo yo : Operand) (x y : AV) (K : AV → Option β) : bop P op T xo yo x y K = (bopD P op T xo yo x y).bind K := by
  unfold bopD bop nilOp nilB
  (repeat' split) <;> first | rfl | simp [bif_bind, bif_bind', intOp_lin, strOp_lin, Option.bind_assoc]
def uopD (op : UnOp) (x : AV) : Option AV := uop op x some
theorem uop_lin (op : UnOp) (x : AV) (K : AV → Option β) : uop op x K = (uopD op x).bind K := by
  unfold uopD uop
  split <;> rfl
def lenAVD (P : Program) (σ : Nat → Option Ob) (T : TypeId) (v : AV) : Option Nat := lenAV P σ T v some
theorem lenAV_lin (T : TypeId) (v : AV) (K : Nat → Option β) : lenAV P σ T v K = (lenAVD P σ T v).bind K := by
  unfold lenAVD lenAV
  (repeat' split) <;> simp [bif_bind]
def bound1D (x : Option AV) (d y : Nat) : Option Nat := bound1 x d y some
theorem bound1_lin (x : Option AV) (d y : Nat) (K : Nat → Option β) : bound1 x d y K = (bound1D x d y).bind K := by
  unfold bound1D bound1
  split <;> simp [bif_bind]
def sliceLD (sz : Nat) (xs : List AV) (lo hi : Option AV) (u : Upd) : Option (AV × Upd) := sliceL sz xs lo hi u fun v u => some (v, u)
theorem sliceL_lin (sz : Nat) (xs : List AV) (lo hi : Option AV) (u : Upd) (K : AV → Upd → Option β) : sliceL sz xs lo hi u K = (sliceLD sz xs lo hi u).bind fun x => K x.1 x.2 := by
  unfold sliceLD sliceL
  simp [bound1_lin, Option.bind_assoc]
def sliceD (P : Program) (σ : Nat → Option Ob) (T : TypeId) (x : AV) (lo hi : Option AV) : Option (AV × Upd) := sliceK P σ T x lo hi fun v u => some (v, u)
theorem slice_lin (T : TypeId) (x : AV) (lo hi : Option AV) (K : AV → Upd → Option β) : sliceK P σ T x lo hi K = (sliceD P σ T x lo hi).bind fun x => K x.1 x.2 := by
  unfold sliceD sliceK
  split
  · split <;> simp [bound1_lin, Option.bind_assoc]
  · rename_i e _
    cases P.cellsOf e == 0 <;> simp only [cond_true, cond_false]
    · split
      · simp [bif_bind, sliceL_lin, Option.bind_assoc]
      · simp [bound1_lin, Option.bind_assoc]
      · split
        · split <;> simp [bif_bind, bound1_lin, sliceL_lin, Option.bind_assoc]
        · rfl
      · split
        · split <;> simp [bif_bind, bound1_lin, sliceL_lin, Option.bind_assoc]
        · rfl
      · rfl
    · rfl
  · rfl
def fieldAddrD (P : Program) (σ : Nat → Option Ob) (S : TypeId) (x : AV) (f : Nat) : Option AV := fieldAddrK P σ S x f some
theorem fieldAddr_lin (S : TypeId) (x : AV) (f : Nat) (K : AV → Option β) : fieldAddrK P σ S x f K = (fieldAddrD P σ S x f).bind K := by
  unfold fieldAddrD fieldAddrK
  split
  · rename_i fd _
    cases P.cellsOf fd.type == 0 <;> simp only [cond_true, cond_false]
    · split <;> simp [bif_bind]
    · rfl
  · rfl
def idxOfD (i : AV) (n : Nat) : Option Nat := idxOf i n some
theorem idxOf_lin (i : AV) (n : Nat) (K : Nat → Option β) : idxOf i n K = (idxOfD i n).bind K := by
  unfold idxOfD idxOf
  split <;> simp [bif_bind]
def indexAddrD (P : Program) (σ : Nat → Option Ob) (T : TypeId) (x i : AV) : Option AV := indexAddrK P σ T x i some
theorem indexAddr_lin (T : TypeId) (x i : AV) (K : AV → Option β) : indexAddrK P σ T x i K = (indexAddrD P σ T x i).bind K := by
  unfold indexAddrD indexAddrK
  split
  · split
    · simp [bif_bind, idxOf_lin, Option.bind_assoc]
    · split <;> simp [bif_bind, idxOf_lin, Option.bind_assoc]
    · split <;> simp [bif_bind, idxOf_lin, Option.bind_assoc]
    · rfl
  · rename_i n e _
    cases P.cellsOf e == 0 <;> simp only [cond_true, cond_false]
    · split <;> simp [bif_bind, idxOf_lin, Option.bind_assoc]
    · rfl
  · rfl
def indexD (P : Program) (T : TypeId) (x i : AV) : Option AV := indexK P T x i some
theorem index_lin (T : TypeId) (x i : AV) (K : AV → Option β) : indexK P T x i K = (indexD P T x i).bind K := by
  unfold indexD indexK
  split
  · split <;> simp [idxOf_lin, Option.bind_assoc]
  · rfl
def loadD (P : Program) (σ : Nat → Option Ob) (T : TypeId) (p : AV) : Option AV := loadK P σ T p some
theorem load_lin (T : TypeId) (p : AV) (K : AV → Option β) : loadK P σ T p K = (loadD P σ T p).bind K := by
  unfold loadD loadK
  split
  · split
    · rw [loadT_lin (K := K)]; rfl
    · rfl
  · split
    · simp [loadTP_lin, Option.bind_assoc]
    · rfl
  · rw [loadTP_lin (K := K)]; rfl
  · rfl
def storeD (P : Program) (σ : Nat → Option Ob) (T : TypeId) (p x : AV) : Option (AV × Upd) := storeK P σ T p x fun v u => some (v, u)
theorem store_lin (T : TypeId) (p x : AV) (K : AV → Upd → Option β) : storeK P σ T p x K = (storeD P σ T p x).bind fun x => K x.1 x.2 := by
  unfold storeD storeK
  split
  · split <;> simp [bif_bind]
  · split
    · simp [frz_lin, Option.bind_assoc, bif_bind]
    · rfl
  · rfl
def buildD (P : Program) (T : TypeId) (ps : List (Nat × AV)) : Option AV := buildK P T ps some
theorem build_lin (T : TypeId) (ps : List (Nat × AV)) (K : AV → Option β) : buildK P T ps K = (buildD P T ps).bind K := by
  unfold buildD buildK
  split <;> simp [bif_bind, Option.bind_assoc]
def frzPartsD (P : Program) (σ : Nat → Option Ob) (e : TypeId) (l : List (Nat × AV)) : Option (List (Nat × AV) × Upd) := frzParts P σ e l fun l u => some (l, u)
theorem frzParts_lin (e : TypeId) : ∀ {β : Type} (l : List (Nat × AV)) (K : List (Nat × AV) → Upd → Option β), frzParts P σ e l K = (frzPartsD P σ e l).bind fun x => K x.1 x.2
  | _, [], K => by simp [frzPartsD, frzParts]
  | _, (i, v) :: l, K => by unfold frzPartsD frzParts; simp [frz_lin, frzParts_lin e l, Option.bind_assoc, bif_bind]
def srcD (P : Program) (σ : Nat → Option Ob) (e : TypeId) (x : AV) : Option (List AV) := srcK P σ e x some
theorem src_lin (e : TypeId) (x : AV) (K : List AV → Option β) : srcK P σ e x K = (srcD P σ e x).bind K := by
  unfold srcD srcK
  (repeat' split) <;> simp [bif_bind]
def convD (P : Program) (σ : Nat → Option Ob) (src dst : TypeId) (x : AV) : Option AV := conv P σ src dst x some
theorem conv_lin (src dst : TypeId) (x : AV) (K : AV → Option β) : conv P σ src dst x K = (convD P σ src dst x).bind K := by
  unfold convD conv
  (repeat' split) <;> simp [bif_bind, src_lin, Option.bind_assoc]
abbrev R3 := AV × Upd × New
def some3 (v : AV) (u : Upd) (n : New) : Option R3 := some (v, u, n)
def b3 (x : Option R3) (K : AV → Upd → New → Option β) : Option β := x.bind fun x => K x.1 x.2.1 x.2.2
theorem some3_bind (v : AV) (u : Upd) (n : New) (f : R3 → Option β) : (some3 v u n).bind f = f (v, u, n) := rfl
def growD (P : Program) (dst : Nat) (e : TypeId) (u : Upd) (xs : List AV) (fz : Bool) (ys : List AV) : Option R3 := growK P dst e u xs fz ys some3
theorem grow_lin (dst : Nat) (e : TypeId) (u : Upd) (xs : List AV) (fz : Bool) (ys : List AV) (K : AV → Upd → New → Option β) : growK P dst e u xs fz ys K = (growD P dst e u xs fz ys).bind fun x => K x.1 x.2.1 x.2.2 := by
  unfold growD growK
  simp [bif_bind, some3_bind]
def appendD (P : Program) (σ : Nat → Option Ob) (dst : Nat) (T : TypeId) (s x : AV) : Option R3 := appendK P σ dst T s x some3
theorem append_lin (dst : Nat) (T : TypeId) (s x : AV) (K : AV → Upd → New → Option β) : appendK P σ dst T s x K = (appendD P σ dst T s x).bind fun x => K x.1 x.2.1 x.2.2 := by
  unfold appendD appendK
  split
  · simp only [src_lin, bif_bind, Option.bind_assoc]
    congr 1
    congr 1
    funext ys
    (repeat' split) <;> simp [bif_bind, grow_lin, Option.bind_assoc, some3_bind]
  · rfl
def makeD (P : Program) (dst : Nat) (T : TypeId) (l c : AV) : Option R3 := makeK P dst T l c some3
theorem make_lin (dst : Nat) (T : TypeId) (l c : AV) (K : AV → Upd → New → Option β) : makeK P dst T l c K = (makeD P dst T l c).bind fun x => K x.1 x.2.1 x.2.2 := by
  unfold makeD makeK
  (repeat' split) <;> simp [bif_bind, some3_bind]
def recv1D (P : Program) (fl : Bool) (nm : Nat) (T : TypeId) (r : AV) : Option (AV × New) := recv1 P fl nm T r fun v n => some (v, n)
theorem recv1_lin (fl : Bool) (nm : Nat) (T : TypeId) (r : AV) (K : AV → New → Option β) : recv1 P fl nm T r K = (recv1D P fl nm T r).bind fun x => K x.1 x.2 := by
  unfold recv1D recv1
  cases fl <;> simp only [cond_true, cond_false]
  · cases r.isFresh <;> simp [castTP_lin, Option.bind_assoc]
  · split <;> simp [bif_bind]
def recvLD (P : Program) (nt : Nat) (nm : Nat) (fl : List Bool) (ts : List TypeId) (rs : List AV) : Option (List AV × New) := recvL P nt nm fl ts rs fun v n => some (v, n)
theorem recvL_lin (nt : Nat) : ∀ {β : Type} (nm : Nat) (fl : List Bool) (ts : List TypeId) (rs : List AV) (K : List AV → New → Option β), recvL P nt nm fl ts rs K = (recvLD P nt nm fl ts rs).bind fun x => K x.1 x.2
  | _, nm, fl, [], [], K => by simp [recvLD, recvL, atNil, atCons]
  | _, nm, fl, [], _ :: _, K => by simp [recvLD, recvL, atNil, atCons]
  | _, nm, fl, _ :: _, [], K => by simp [recvLD, recvL, atNil, atCons]
  | _, nm, fl, t :: ts, r :: rs, K => by unfold recvLD recvL; simp [atCons, recv1_lin, recvL_lin nt (nm + nt) fl.tail ts rs, Option.bind_assoc]
theorem atTup_bind {γ : Type} (v : AV) (K : List AV → Option γ) (f : γ → Option β) : (atTup v K).bind f = atTup v fun c => (K c).bind f := by
  unfold atTup
  split <;> rfl
theorem atNil_bind {γ : Type} (l : List AV) (x : Option γ) (f : γ → Option β) : (atNil l x).bind f = atNil l (x.bind f) := by
  unfold atNil
  split <;> rfl
def recvD (P : Program) (nt : Nat) (fl : List Bool) (dst : Nat) (T : TypeId) (r : AV) : Option (AV × New) := recv P nt fl dst T r fun v n => some (v, n)
theorem recv_lin (nt : Nat) (fl : List Bool) (dst : Nat) (T : TypeId) (r : AV) (K : AV → New → Option β) : recv P nt fl dst T r K = (recvD P nt fl dst T r).bind fun x => K x.1 x.2 := by
  unfold recvD recv
  split
  · simp [recvL_lin, Option.bind_assoc, bif_bind, atTup_bind]
  · simp [atTup_bind, atNil_bind]
  · cases AV.isTup r <;> simp [recv1_lin, Option.bind_assoc]
def callD (C : Cfg) (nt : Nat) (σ : Nat → Option Ob) (dst : Nat) (T : TypeId) (f : FuncId) (ts : List TypeId) (vs : List AV) (cap : List AV) : Option R3 := callK C nt σ dst T f ts vs cap some3
theorem call_lin (nt : Nat) (dst : Nat) (T : TypeId) (f : FuncId) (ts : List TypeId) (vs : List AV) (cap : List AV) (K : AV → Upd → New → Option β) : callK C nt σ dst T f ts vs cap K = (callD C nt σ dst T f ts vs cap).bind fun x => K x.1 x.2.1 x.2.2 := by
  unfold callD callK
  simp [frzL_lin, recv_lin, Option.bind_assoc, some3_bind]
def builtinD (C : Cfg) (σ : Nat → Option Ob) (dst : Nat) (b : Builtin) (ts : List TypeId) (vs : List AV) : Option R3 := builtinK C σ dst b ts vs some3
theorem builtin_lin (dst : Nat) (b : Builtin) (ts : List TypeId) (vs : List AV) (K : AV → Upd → New → Option β) : builtinK C σ dst b ts vs K = (builtinD C σ dst b ts vs).bind fun x => K x.1 x.2.1 x.2.2 := by
  unfold builtinD builtinK
  (repeat' split) <;> simp [bif_bind, lenAV_lin, append_lin, Option.bind_assoc, some3_bind]
def rangeD (P : Program) (dst : Nat) (T : TypeId) (x : AV) : Option R3 := rangeK P dst T x some3
theorem range_lin (dst : Nat) (T : TypeId) (x : AV) (K : AV → Upd → New → Option β) : rangeK P dst T x K = (rangeD P dst T x).bind fun x => K x.1 x.2.1 x.2.2 := by
  unfold rangeD rangeK
  (repeat' split) <;> simp [some3_bind]
theorem bif_bind2 {γ : Type} (c : Bool) (x y : Option γ) (f : γ → Option β) : (bif c then x else y).bind f = bif c then x.bind f else y.bind f := by cases c <;> rfl
def nextD (σ : Nat → Option Ob) (x : AV) : Option (AV × Upd) := nextK σ x fun v u => some (v, u)
theorem next_lin (x : AV) (K : AV → Upd → Option β) : nextK σ x K = (nextD σ x).bind fun x => K x.1 x.2 := by
  unfold nextD nextK
  (repeat' split) <;> simp [bif_bind2]
def opD (C : Cfg) (nt : Nat) (o : Oper) (vs : List AV) (σ : Nat → Option Ob) : Option R3 := opk C nt o vs σ some3
theorem op_lin (nt : Nat) (o : Oper) (vs : List AV) (K : AV → Upd → New → Option β) : opk C nt o vs σ K = (opD C nt o vs σ).bind fun x => K x.1 x.2.1 x.2.2 := by
  unfold opD opk
  simp only
  split <;> first
    | rfl
    | (simp [bif_bind, some3_bind, build_lin, frzParts_lin, load_lin, store_lin, bop_lin, uop_lin, conv_lin, make_lin, range_lin, next_lin, fieldAddr_lin, indexAddr_lin, index_lin, Option.bind_assoc]; done)
    | (split <;> first
      | rfl
      | (simp [bif_bind, some3_bind, build_lin, frzParts_lin, load_lin, store_lin, bop_lin, uop_lin, conv_lin, make_lin, slice_lin, call_lin, builtin_lin, Option.bind_assoc]; done)
      | (cases ‹Bool› <;> rfl))
end Go.Proofs.YtilbahgfjfcikaaDoor.Eng
