/- The program's own data as a row hands them in: what is read is some item, with bounds. -/
import Derived.Test.YtilbahgfjfcikaaDoorApi
set_option linter.unusedVariables false
set_option linter.unusedSimpArgs false
namespace Go.Proofs.YtilbahgfjfcikaaDoor.Eng.U
open Go Go.Proofs Go.Proofs.YtilbahgfjfcikaaDoor.Eng Go.Proofs.YtilbahgfjfcikaaDoor.Eng.Rdv

def InR (n : Int) : Prop := -9223372036854775808 ≤ n ∧ n ≤ 9223372036854775807
structure G_apiPair (p : Pair) : Prop where
  key : p.key.length ≤ 140737488351232
  val : p.val.length ≤ 140737488351232
structure G_apiTime (t : Time) : Prop where
  sec : InR t.sec
  nano : InR t.nano
structure G_apiHead (h : Head) : Prop where
  kind : InR h.kind
  name : h.name.length ≤ 140737488351232
  link : h.link.length ≤ 140737488351232
  mode : InR h.mode
  uid : InR h.uid
  gid : InR h.gid
  size : InR h.size
  sec : InR h.sec
  nano : InR h.nano
  user : h.user.length ≤ 140737488351232
  group : h.group.length ≤ 140737488351232
  major : InR h.major
  minor : InR h.minor
  extra : h.extra.length * 32 ≤ 140737488351232
  pairs : ∀ p ∈ h.extra, G_apiPair p
structure G_apiItem (x : Item) : Prop where
  head : G_apiHead x.head
  data : x.data.length ≤ 140737488351232
def G_LapiItem (l : List Item) : Prop := l.length * 184 ≤ 140737488351232 ∧ ∀ x ∈ l, G_apiItem x
def G_LapiPair (l : List Pair) : Prop := l.length * 32 ≤ 140737488351232 ∧ ∀ x ∈ l, G_apiPair x
def G_Lstring (l : List Tx) : Prop := l.length * 16 ≤ 140737488351232 ∧ ∀ x ∈ l, x.length ≤ 140737488351232
def G_Lint (l : List Int) : Prop := l.length * 8 ≤ 140737488351232 ∧ ∀ x ∈ l, InR x
theorem rdi {t : TypeId} (hu : Tryd.prog.underlying t = some (.int .i64)) (hc : Tryd.prog.cellsOf t = 1) : Rd Tryd.prog t (fun n : Int => [.int .i64 n]) InR := int hu hc
theorem rds {t : TypeId} (hu : Tryd.prog.underlying t = some .string) (hc : Tryd.prog.cellsOf t = 1) : Rd Tryd.prog t (fun s : Tx => [.str (str s)]) (fun s => s.length ≤ 140737488351232) := string hu hc
theorem rd_pair : Rd Tryd.prog 68 encPair G_apiPair :=
  weaken (struct (P := Tryd.prog) (t := 68) Tryd.underlying68 rfl (by kernel_rfl) (by kernel_rfl)
    (iso encPair (fun p : Pair => (p.key, p.val)) (fun y => ⟨y.1, y.2⟩) (fun _ => rfl) (fun _ => rfl)
      (cons (rds (by kernel_rfl) (by kernel_rfl)) (one (rds (by kernel_rfl) (by kernel_rfl)))))) (fun _ h => ⟨h.1, h.2⟩)
theorem rd_time : Rd Tryd.prog 34 encTime G_apiTime :=
  weaken (struct (P := Tryd.prog) (t := 34) Tryd.underlying34 rfl (by kernel_rfl) (by kernel_rfl)
    (iso encTime (fun p : Time => (p.sec, p.nano)) (fun y => ⟨y.1, y.2⟩) (fun _ => rfl) (fun _ => rfl)
      (cons (rdi (by kernel_rfl) (by kernel_rfl)) (one (rdi (by kernel_rfl) (by kernel_rfl)))))) (fun _ h => ⟨h.1, h.2⟩)
theorem rd_pairs : Rd Tryd.prog 53 (fun l : List Pair => [.list 2 (prs l)]) G_LapiPair :=
  weaken (sliceAt (B := 32) elPair (fun _ => rfl) Tryd.underlying53 (by kernel_rfl) (by kernel_rfl) (by kernel_rfl) rd_pair) (fun _ h => h)
theorem rd_head : Rd Tryd.prog 55 encHead G_apiHead :=
  weaken (struct (P := Tryd.prog) (t := 55) Tryd.underlying55 rfl (by kernel_rfl) (by kernel_rfl)
    (iso encHead (fun h : Head => (h.kind, h.name, h.link, h.mode, h.uid, h.gid, h.size, (⟨h.sec, h.nano⟩ : Time), h.user, h.group, h.major, h.minor, h.extra))
      (fun y => ⟨y.1, y.2.1, y.2.2.1, y.2.2.2.1, y.2.2.2.2.1, y.2.2.2.2.2.1, y.2.2.2.2.2.2.1, y.2.2.2.2.2.2.2.1.sec, y.2.2.2.2.2.2.2.1.nano, y.2.2.2.2.2.2.2.2.1, y.2.2.2.2.2.2.2.2.2.1, y.2.2.2.2.2.2.2.2.2.2.1, y.2.2.2.2.2.2.2.2.2.2.2.1, y.2.2.2.2.2.2.2.2.2.2.2.2⟩) (fun _ => rfl) (fun _ => rfl)
      (cons (rdi (by kernel_rfl) (by kernel_rfl)) (cons (rds (by kernel_rfl) (by kernel_rfl)) (cons (rds (by kernel_rfl) (by kernel_rfl))
        (cons (rdi (by kernel_rfl) (by kernel_rfl)) (cons (rdi (by kernel_rfl) (by kernel_rfl)) (cons (rdi (by kernel_rfl) (by kernel_rfl)) (cons (rdi (by kernel_rfl) (by kernel_rfl))
          (cons rd_time (cons (rds (by kernel_rfl) (by kernel_rfl)) (cons (rds (by kernel_rfl) (by kernel_rfl))
            (cons (rdi (by kernel_rfl) (by kernel_rfl)) (cons (rdi (by kernel_rfl) (by kernel_rfl)) (one rd_pairs))))))))))))))) (fun h g =>
      ⟨g.1, g.2.1, g.2.2.1, g.2.2.2.1, g.2.2.2.2.1, g.2.2.2.2.2.1, g.2.2.2.2.2.2.1, g.2.2.2.2.2.2.2.1.sec, g.2.2.2.2.2.2.2.1.nano, g.2.2.2.2.2.2.2.2.1, g.2.2.2.2.2.2.2.2.2.1, g.2.2.2.2.2.2.2.2.2.2.1, g.2.2.2.2.2.2.2.2.2.2.2.1, g.2.2.2.2.2.2.2.2.2.2.2.2.1, g.2.2.2.2.2.2.2.2.2.2.2.2.2⟩)
theorem rd_bytes : Rd Tryd.prog 62 (fun l : Tx => [.list 1 (bys l)]) (fun l => l.length ≤ 140737488351232) := by
  have h := sliceAt (sz := 1) (P := Tryd.prog) (t := 62) (e := 5) (B := 1) (en := fun n : Int => [.int .u8 n]) (fun n : Int => .int .u8 n) (fun _ => rfl) Tryd.underlying62 (by kernel_rfl) (by kernel_rfl) (by kernel_rfl) (int (k := .u8) Tryd.underlying5 (by kernel_rfl))
  refine ⟨fun _ => (by kernel_rfl), fun a b => ?_⟩
  obtain ⟨r, h1, h2, h3⟩ := h.out a b
  have e : r.map (fun n : Int => AV.int .u8 n) = bys (r.map fun n => UInt8.ofNat n.toNat) := by
    unfold bys
    rw [List.map_map]
    apply List.map_congr_left
    intro n hn
    have := h3 n hn
    simp [IntKind.min, IntKind.max, IntKind.signed, IntKind.bits] at this
    show AV.int .u8 n = byteAV (UInt8.ofNat n.toNat)
    have h8 : (UInt8.ofNat n.toNat).toNat = n.toNat := by rw [UInt8.toNat_ofNat']; omega
    simp only [byteAV, h8, Int.toNat_of_nonneg this.1]
  refine ⟨r.map fun n => UInt8.ofNat n.toNat, ?_, by simp; omega⟩
  rw [e] at h1
  exact h1
theorem rd_item : Rd Tryd.prog 76 encItem G_apiItem :=
  weaken (struct (P := Tryd.prog) (t := 76) Tryd.underlying76 rfl (by kernel_rfl) (by kernel_rfl)
    (iso encItem (fun x : Item => (x.head, x.data)) (fun y => ⟨y.1, y.2⟩) (fun _ => rfl) (fun _ => rfl) (cons rd_head (one rd_bytes)))) (fun _ h => ⟨h.1, h.2⟩)
theorem rd_items : Rd Tryd.prog 23 (fun l : List Item => [.list 15 (its l)]) G_LapiItem :=
  weaken (sliceAt (B := 184) elItem (fun _ => rfl) Tryd.underlying23 (by kernel_rfl) (by kernel_rfl) (by kernel_rfl) rd_item) (fun _ h => h)
theorem rd_strs : Rd Tryd.prog 22 (fun l : List Tx => [.list 1 (svs l)]) G_Lstring :=
  weaken (sliceAt (B := 16) sv (fun _ => rfl) Tryd.underlying22 (by kernel_rfl) (by kernel_rfl) (by kernel_rfl) (rds (t := 9) (by kernel_rfl) (by kernel_rfl))) (fun _ h => h)
end Go.Proofs.YtilbahgfjfcikaaDoor.Eng.U
