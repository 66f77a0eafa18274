/- DERIVED LEMMAS, OF NO PROGRAM: bytes as values, bytes that came in, texts of bytes. -/
import Derived.Test.YtnbdcdeidhhgoaaDoorArgs
import Derived.Laws.BytesArg
namespace Go.Proofs.YtnbdcdeidhhgoaaDoor
set_option maxRecDepth 4000
set_option linter.unusedVariables false
set_option linter.unusedSimpArgs false
open Go Go.RowKit Go.ChangeShapes Go.WideShapes
def u8s (l : List UInt8) : List Value := l.map fun b => Value.int .u8 (b.toNat : Int)
theorem u8s_append (a b : List UInt8) : u8s (a ++ b) = u8s a ++ u8s b := by simp [u8s]
theorem u8s_length (a : List UInt8) : (u8s a).length = a.length := by simp [u8s]
theorem u8s_one (l : List UInt8) : ∀ u ∈ u8s l, u.oneCell' = true := by
  intro u hu; simp only [u8s, List.mem_map] at hu; obtain ⟨b, _, rfl⟩ := hu; rfl
def byI (l : List UInt8) : List Int := l.map fun b => (b.toNat : Int)
theorem byI_length (l : List UInt8) : (byI l).length = l.length := by simp [byI]
theorem u8s_byI (l : List UInt8) : u8s l = (byI l).map (Value.int .u8) := by simp [u8s, byI]
theorem news_at {w : World} {p : Option Addr} {l : List UInt8} (h : NumsAt .u8 w p (byI l)) : ∀ a, p = some a → ∀ j u, (u8s l)[j]? = some u → w.cell? (a.add j) = some u := by
  rintro a rfl j u hj
  have hlt : j < (byI l).length := by
    have := (List.getElem?_eq_some_iff.1 hj).1
    rw [u8s_length] at this; rw [byI_length]; exact this
  obtain ⟨a', ha, _, hc⟩ := h j hlt
  injection ha with ha
  subst ha
  rw [hc]
  rw [u8s_byI, List.getElem?_map, List.getElem?_eq_getElem hlt] at hj
  rw [List.getD_eq_getElem?_getD, List.getElem?_eq_getElem hlt]
  simpa using hj
theorem bytes_of {zs : List Int} (h : Wfs .u8 zs) : ∃ bs : List UInt8, zs = byI bs := by
  refine ⟨zs.map fun z => UInt8.ofNat z.toNat, ?_⟩
  unfold byI
  rw [List.map_map]
  conv => lhs; rw [← List.map_id zs]
  refine List.map_congr_left fun z hz => ?_
  have := bd_u8 (h z hz)
  simp
  omega
theorem open_bytes {H : Type} {enc : TypeId × Value → H} {P : Program} {w : World} {base b0 : Nat} {spare : Nat → Bool} {held : Bool} {r : Reach} {t e : TypeId} {v : Value} {d : DataW H} {ps : List MemPlace} (ht : P.underlying t = some (.slice e)) (he : P.underlying e = some (.int .u8)) (hc : P.cellsOf e = 1)
    (hval : Value.okWide P w r b0 t v) (h : DataW.Trod enc P w base spare held t v d ps) : ∃ p c bs, v = .slice p bs.length c ∧ NumsAt .u8 w p (byI bs) ∧ (p = none → bs.length = 0 ∧ c = 0) ∧ bs.length ≤ c ∧ c ≤ maxLen := by
  obtain ⟨p, c, zs, rfl, h1, h2, h3, h4, h5, h6⟩ := open_nums ht he hc hval h
  obtain ⟨bs, rfl⟩ := bytes_of h2
  rw [byI_length] at h3 h4 h5
  exact ⟨p, c, bs, by rw [byI_length], h1, h4, h5, h6⟩
def strOf (l : List UInt8) : ByteArray := ⟨l.toArray⟩
theorem strOf_nums (l : List UInt8) : strOfNums (byI l) = strOf l := by
  unfold strOfNums strOf byI
  rw [List.map_map]
  congr 2
  conv => rhs; rw [← List.map_id l]
  exact List.map_congr_left fun b _ => by simp
theorem conv_str {P : Program} {t e st : TypeId} (ht : P.underlying t = some (.slice e)) (he : P.underlying e = some (.int .u8)) (hs : P.underlying st = some .string) (w : World) (b o c : Nat) (l : List UInt8) (h : ∀ i, i < l.length → w.cell? ⟨b, o + i, none⟩ = some (.int .u8 ((l.getD i 0).toNat : Int))) :
    (convert t st (.slice (some ⟨b, o, none⟩) l.length c)).run P w = .ok (.string (strOf l)) w := by
  have := run_convert_bytes_arg (P := P) w t e ht he b o l.length c (byI l) (byI_length l) (fun i hi => by
    rw [h i hi]; congr 2; rw [byI, List.getD_eq_getElem?_getD, List.getD_eq_getElem?_getD, List.getElem?_map, List.getElem?_eq_getElem hi]; rfl) st hs
  rw [strOf_nums] at this
  exact this
end Go.Proofs.YtnbdcdeidhhgoaaDoor
