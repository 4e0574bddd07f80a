import Derived.Test.YtedekogkeamacaaGreatDoorAxH
namespace Go.Proofs.Ax
open Go
set_option linter.unusedVariables false
theorem sv0 {σ : Nat → Nat} {n : Nat} {l : Fr} : AllS σ n l [] := trivial
theorem sv1 {σ : Nat → Nat} {n : Nat} {l r : Fr} {i : Nat} {x : AV} (hr : AllS σ n l r) (h1 : x.ok n = true := by rfl) (h2 : alk i l = x.ren σ := by rfl) : AllS σ n l ((i, x) :: r) := ⟨.inr ⟨h1, h2⟩, hr⟩
theorem sv2 {σ : Nat → Nat} {n : Nat} {l r : Fr} {i : Nat} {a b : Int} (hr : AllS σ n l r) (h2 : alk i l = .sc (.int .i64 a) := by rfl) (h : a = b := by first | omega | (simp; done) | (simp; omega)) : AllS σ n l ((i, .sc (.int .i64 b)) :: r) :=
  ⟨.inr ⟨rfl, by rw [h2, h]; rfl⟩, hr⟩
theorem sv3 {σ : Nat → Nat} {n : Nat} {l r : Fr} {i i' j k o m n' : Nat} (hr : AllS σ n l r) (h0 : (AV.sm j k o m).ok n = true := by rfl) (h2 : alk i l = .sm i' k o n' := by rfl) (h1 : i' = σ j := by rfl) (h : n' = m := by first | omega | (simp; done) | (simp; omega)) : AllS σ n l ((i, .sm j k o m) :: r) :=
  ⟨.inr ⟨h0, h2.trans (smE h1 h)⟩, hr⟩
theorem bv0 {σ : Nat → Nat} {n : Nat} {H : AH} : AllB σ n H [] [] := trivial
theorem bv1 {σ : Nat → Nat} {n : Nat} {H bs : AH} {i : Nat} {is : List Nat} {b b' : ABlk} (hr : AllB σ n H is bs) (h1 : nthB H i = some b := by rfl)
    (h2 : Blk σ n b b' := by first | exact blkDead | exact blkDeep rfl (deepLit rfl) | exact blkDeep rfl (deepMap (fun _ => rfl)) | exact blkOk rfl rfl | exact blkLoop rfl rfl)
    (h3 : b'.live = true → b.live = true := by first | exact fun _ => rfl | exact fun h => (by cases h)) : AllB σ n H (i :: is) (b' :: bs) := ⟨⟨b, h1, h2, h3⟩, hr⟩
end Go.Proofs.Ax
