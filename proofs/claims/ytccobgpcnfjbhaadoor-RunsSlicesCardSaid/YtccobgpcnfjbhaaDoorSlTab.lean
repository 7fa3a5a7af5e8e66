/- Part Tab. -/
import Derived.Test.YtccobgpcnfjbhaaDoorSlB0
import Derived.Test.YtccobgpcnfjbhaaDoorSlCode
set_option linter.unusedSectionVars false
set_option linter.unusedVariables false
set_option linter.unusedSimpArgs false
set_option linter.defProp false
set_option maxRecDepth 20000
set_option maxHeartbeats 1000000
open Go.Proofs.Tryd
namespace Go.Pd
open Go Go.Proofs
def Tb : Table:=[(3,⟨c3.1,c3.2.1,c3.2.2,[]⟩),(4,⟨c4.1,c4.2.1,c4.2.2,[]⟩),(5,⟨c5.1,c5.2.1,c5.2.2,[]⟩),(6,⟨c6.1,c6.2.1,c6.2.2,[]⟩),(7,⟨c7.1,c7.2.1,c7.2.2,[]⟩),(8,⟨c8.1,c8.2.1,c8.2.2,[]⟩),(9,⟨c9.1,c9.2.1,c9.2.2,[60,67,1000059,1000060]⟩),(10,⟨Yo.1,Yo.2.1,Yo.2.2,[]⟩),(11,⟨Yp.1,Yp.2.1,Yp.2.2,[]⟩),(12,⟨Yq.1,Yq.2.1,Yq.2.2,[]⟩),(13,⟨Yr.1,Yr.2.1,Yr.2.2,[]⟩),(14,⟨Ys.1,Ys.2.1,Ys.2.2,[]⟩),(15,⟨Yt.1,Yt.2.1,Yt.2.2,[]⟩),(16,⟨Yu.1,Yu.2.1,Yu.2.2,[]⟩),(17,⟨Yv.1,Yv.2.1,Yv.2.2,[]⟩),(18,⟨Yw.1,Yw.2.1,Yw.2.2,[1000031]⟩),(19,⟨Yz.1,Yz.2.1,Yz.2.2,[]⟩),(20,⟨Yy.1,Yy.2.1,Yy.2.2,[102]⟩),(21,⟨Yx.1,Yx.2.1,Yx.2.2,[]⟩),(22,⟨X0.1,X0.2.1,X0.2.2,[5]⟩),(23,⟨X7.1,X7.2.1,X7.2.2,[5]⟩),(24,⟨XB.1,XB.2.1,XB.2.2,[]⟩),(25,⟨XC.1,XC.2.1,XC.2.2,[]⟩),(26,⟨XD.1,XD.2.1,XD.2.2,[]⟩),(27,⟨XI.1,XI.2.1,XI.2.2,[]⟩),(28,⟨XJ.1,XJ.2.1,XJ.2.2,[51,58,80,1000050,1000051,1000110]⟩),(29,⟨XK.1,XK.2.1,XK.2.2,[]⟩),(30,⟨XL.1,XL.2.1,XL.2.2,[]⟩),(31,⟨XM.1,XM.2.1,XM.2.2,[]⟩),(32,⟨XN.1,XN.2.1,XN.2.2,[]⟩),(33,⟨XO.1,XO.2.1,XO.2.2,[]⟩),(34,⟨XP.1,XP.2.1,XP.2.2,[]⟩),(35,⟨XQ.1,XQ.2.1,XQ.2.2,[]⟩),(36,⟨XT.1,XT.2.1,XT.2.2,[]⟩),(37,⟨XU.1,XU.2.1,XU.2.2,[]⟩),(38,⟨XV.1,XV.2.1,XV.2.2,[]⟩),(39,⟨XW.1,XW.2.1,XW.2.2,[]⟩),(40,⟨XZ.1,XZ.2.1,XZ.2.2,[]⟩),(42,⟨XY.1,XY.2.1,XY.2.2,[]⟩),(43,⟨XX.1,XX.2.1,XX.2.2,[]⟩),(44,⟨Xa.1,Xa.2.1,Xa.2.2,[]⟩),(45,⟨Xb.1,Xb.2.1,Xb.2.2,[]⟩),(46,⟨Xc.1,Xc.2.1,Xc.2.2,[]⟩),(47,⟨Xd.1,Xd.2.1,Xd.2.2,[]⟩),(48,⟨Xe.1,Xe.2.1,Xe.2.2,[]⟩),(49,⟨Xf.1,Xf.2.1,Xf.2.2,[]⟩),(50,⟨Xg.1,Xg.2.1,Xg.2.2,[]⟩),(51,⟨Xh.1,Xh.2.1,Xh.2.2,[]⟩),(52,⟨Xi.1,Xi.2.1,Xi.2.2,[]⟩),(53,⟨Xj.1,Xj.2.1,Xj.2.2,[]⟩),(54,⟨Xk.1,Xk.2.1,Xk.2.2,[]⟩),(55,⟨Xl.1,Xl.2.1,Xl.2.2,[]⟩),(56,⟨Xm.1,Xm.2.1,Xm.2.2,[]⟩),(57,⟨Xn.1,Xn.2.1,Xn.2.2,[]⟩),(58,⟨Xo.1,Xo.2.1,Xo.2.2,[]⟩),(59,⟨Xp.1,Xp.2.1,Xp.2.2,[]⟩),(60,⟨Xq.1,Xq.2.1,Xq.2.2,[]⟩),(61,⟨Xr.1,Xr.2.1,Xr.2.2,[]⟩),(62,⟨Xs.1,Xs.2.1,Xs.2.2,[]⟩),(63,⟨Xt.1,Xt.2.1,Xt.2.2,[]⟩),(64,⟨Xu.1,Xu.2.1,Xu.2.2,[]⟩),(65,⟨Xv.1,Xv.2.1,Xv.2.2,[]⟩),(68,⟨Xw.1,Xw.2.1,Xw.2.2,[]⟩),(69,⟨Xz.1,Xz.2.1,Xz.2.2,[]⟩),(70,⟨Xy.1,Xy.2.1,Xy.2.2,[]⟩),(71,⟨Xx.1,Xx.2.1,Xx.2.2,[]⟩),(72,⟨b6.1,b6.2.1,b6.2.2,[]⟩),(73,⟨b7.1,b7.2.1,b7.2.2,[]⟩),(74,⟨b8.1,b8.2.1,b8.2.2,[]⟩)]
theorem j6 : tO prog Tb:=
 .cons func3 k3 <|
 .cons func4 k4 <|
 .cons func5 k5 <|
 .cons func6 k6 <|
 .cons func7 k7 <|
 .cons func8 k8 <|
 .cons func9 k9 <|
 .cons func10 YD <|
 .cons func11 YE <|
 .cons func12 ZY <|
 .cons func13 ZX <|
 .cons func14 Za <|
 .cons func15 YF <|
 .cons func16 Zb <|
 .cons func17 Zc <|
 .cons func18 Zd <|
 .cons func19 YG <|
 .cons func20 YH <|
 .cons func21 YI <|
 .cons func22 YJ <|
 .cons func23 e8 <|
 .cons func24 YK <|
 .cons func25 YL <|
 .cons func26 YM <|
 .cons func27 YN <|
 .cons func28 Ze <|
 .cons func29 Zf <|
 .cons func30 YO <|
 .cons func31 Zg <|
 .cons func32 Zh <|
 .cons func33 Zi <|
 .cons func34 YP <|
 .cons func35 YQ <|
 .cons func36 YR <|
 .cons func37 YS <|
 .cons func38 YT <|
 .cons func39 YU <|
 .cons func40 YV <|
 .cons func42 YW <|
 .cons func43 Zj <|
 .cons func44 Zk <|
 .cons func45 Zl <|
 .cons func46 Zm <|
 .cons func47 Zn <|
 .cons func48 Zo <|
 .cons func49 YZ <|
 .cons func50 YY <|
 .cons func51 YX <|
 .cons func52 Ya <|
 .cons func53 Zp <|
 .cons func54 Zq <|
 .cons func55 Zr <|
 .cons func56 Zs <|
 .cons func57 Zt <|
 .cons func58 Zu <|
 .cons func59 Zv <|
 .cons func60 Zw <|
 .cons func61 Zz <|
 .cons func62 Zy <|
 .cons func63 Zx <|
 .cons func64 Y0 <|
 .cons func65 Y1 <|
 .cons func68 Y2 <|
 .cons func69 Y3 <|
 .cons func70 Y4 <|
 .cons func71 Y5 <|
 .cons func72 Y6 <|
 .cons func73 Y7 <|
 .cons func74 Y8 <|
 .nil
end Go.Pd
